/- OrderKnown: the walk. -/
import Derived.Test.YtoihjobdfjajfaaOKeys
namespace Go.Proofs.Ytoihjobdfjajfaa
set_option linter.unusedVariables false
set_option linter.unusedSimpArgs false
open Go.RowKit
theorem leafIn {p : Nat → Prop} {w : World} (k n : Int) (s : ByteArray) (h1 : I64 k) (h2 : I64 n) (h3 : s.size ≤ maxLen) : LT.In p w (leaf k n s) :=
  LT.In.mk h1 h2 h3 (Nat.le_refl _) (by unfold maxLen; omega) (fun _ => ⟨rfl, rfl⟩) (fun h => absurd h (by decide)) trivial
theorem leafSlim (k n : Int) (s : ByteArray) : slim (leaf k n s) := by
  intro x hx
  simp [leaf, Tm.flat, Tm.flats] at hx
  subst hx
  simp [Tm.args]
set_option maxHeartbeats 1600000 in
theorem testEq76 {p : Nat → Prop} {a b : LT} {w : World} (c : Int) (hcm : Tm.cmp a b = c) (ha : a.In p w) (hb : b.In p w) (sa : slim a) (sb : slim b) (ga : goodB a = true) (gb : goodB b = true) :
    Calls Try.prog 76 #[.string ⟨#[61]⟩, a.val, b.val] w fun e w' => e = .returned (.tuple #[.bool false, .int .i64 1]) ∧ Turned (fun _ => False) w w' := by
  obtain ⟨b1, hb1⟩ : ∃ bx : Obj, bx = .cells #[.int .i64 a.kind, .int .i64 a.n, .string a.name, .slice a.at_.1 a.args.length a.at_.2] 27 := ⟨_, rfl⟩
  obtain ⟨b2, hb2⟩ : ∃ bx : Obj, bx = .cells #[.int .i64 b.kind, .int .i64 b.n, .string b.name, .slice b.at_.1 b.args.length b.at_.2] 27 := ⟨_, rfl⟩
  have T1 := ((Turned.refl (fun _ => False) w).alloc b1).alloc b2
  have hc : ∀ W, Turned (fun _ => False) ((w.alloc b1).alloc b2) W → W.heap[w.heap.size]? = some b1 ∧ W.heap[w.heap.size + 1]? = some b2 := by
    intro W h
    exact ⟨(h.block _ (by simp; omega) (fun f => f)).trans (heap_alloc2_old w b1 b2), (h.block _ (by simp) (fun f => f)).trans (heap_alloc2_new w b1 b2)⟩
  have g1 := fun W (h : Turned (fun _ => False) ((w.alloc b1).alloc b2) W) => good38 (ha.turned0 (T1.trans h)) sa
  have g2 := fun W (h : Turned (fun _ => False) ((w.alloc b1).alloc b2) W) => good38 (hb.turned0 (T1.trans h)) sb
  have g3 := fun W (h : Turned (fun _ => False) ((w.alloc b1).alloc b2) W) => compare135 (p := p) a.depth a b W (Nat.le_refl _) (ha.turned0 (T1.trans h)) (hb.turned0 (T1.trans h))
  rw [ga] at g1
  rw [gb] at g2
  rw [hcm] at g3
  rw [LT.val_eq a] at g1 g3 ⊢
  rw [LT.val_eq b] at g2 g3 ⊢
  subst hb1 hb2
  have G1 := Lib.hid g1
  have G2 := Lib.hid g2
  have G3 := Lib.hid g3
  have HC := Lib.hid hc
  have HT := Lib.hid T1
  clear g1 g2 g3 hc T1 ha hb sa sb ga gb hcm
  go_enter Try.func76, Try.ntmps76
  go_wp2_with (first
    | (go_at_call 38; (with_reducible refine (G1.out _ (Turned.refl _ _)).mono ?_); rintro e w2 ⟨rfl, T2⟩; obtain ⟨h1, h2⟩ := HC.out _ T2; obtain ⟨d0, d1, d2, d3, _⟩ := cells4 h2; obtain ⟨f0, f1, f2, f3, _⟩ := cells4 h1; clear h1 h2)
    | (go_at_call 38; have := T2; (with_reducible refine (G2.out _ T2).mono ?_); rintro e w3 ⟨rfl, T3⟩; obtain ⟨h1, h2⟩ := HC.out _ (T2.trans T3); obtain ⟨d0, d1, d2, d3, _⟩ := cells4 h2; obtain ⟨f0, f1, f2, f3, _⟩ := cells4 h1; clear h1 h2)
    | (go_at_call 135; refine (G3.out _ (T2.trans T3)).mono ?_; rintro e w4 ⟨rfl, T4⟩))
  go_ret2
  exact ⟨rfl, HT.out.trans (T2.trans (T3.trans T4))⟩
set_option maxHeartbeats 1600000 in
theorem testLe76 {p : Nat → Prop} {a b : LT} {w : World} (hcm : Tm.cmp a b = 0) (ha : a.In p w) (hb : b.In p w) (sa : slim a) (sb : slim b) (ga : goodB a = true) (gb : goodB b = true) :
    Calls Try.prog 76 #[.string ⟨#[64, 61, 60]⟩, a.val, b.val] w fun e w' => e = .returned (.tuple #[.bool true, .int .i64 0]) ∧ Turned (fun _ => False) w w' := by
  obtain ⟨b1, hb1⟩ : ∃ bx : Obj, bx = .cells #[.int .i64 a.kind, .int .i64 a.n, .string a.name, .slice a.at_.1 a.args.length a.at_.2] 27 := ⟨_, rfl⟩
  obtain ⟨b2, hb2⟩ : ∃ bx : Obj, bx = .cells #[.int .i64 b.kind, .int .i64 b.n, .string b.name, .slice b.at_.1 b.args.length b.at_.2] 27 := ⟨_, rfl⟩
  have T1 := ((Turned.refl (fun _ => False) w).alloc b1).alloc b2
  have hc : ∀ W, Turned (fun _ => False) ((w.alloc b1).alloc b2) W → W.heap[w.heap.size]? = some b1 ∧ W.heap[w.heap.size + 1]? = some b2 := by
    intro W h
    exact ⟨(h.block _ (by simp; omega) (fun f => f)).trans (heap_alloc2_old w b1 b2), (h.block _ (by simp) (fun f => f)).trans (heap_alloc2_new w b1 b2)⟩
  have g1 := fun W (h : Turned (fun _ => False) ((w.alloc b1).alloc b2) W) => good38 (ha.turned0 (T1.trans h)) sa
  have g2 := fun W (h : Turned (fun _ => False) ((w.alloc b1).alloc b2) W) => good38 (hb.turned0 (T1.trans h)) sb
  have g3 := fun W (h : Turned (fun _ => False) ((w.alloc b1).alloc b2) W) => compare135 (p := p) a.depth a b W (Nat.le_refl _) (ha.turned0 (T1.trans h)) (hb.turned0 (T1.trans h))
  rw [ga] at g1
  rw [gb] at g2
  rw [hcm] at g3
  rw [LT.val_eq a] at g1 g3 ⊢
  rw [LT.val_eq b] at g2 g3 ⊢
  subst hb1 hb2
  have G1 := Lib.hid g1
  have G2 := Lib.hid g2
  have G3 := Lib.hid g3
  have HC := Lib.hid hc
  have HT := Lib.hid T1
  clear g1 g2 g3 hc T1 ha hb sa sb ga gb hcm
  go_enter Try.func76, Try.ntmps76
  go_wp2_with (first
    | (go_at_call 38; (with_reducible refine (G1.out _ (Turned.refl _ _)).mono ?_); rintro e w2 ⟨rfl, T2⟩; obtain ⟨h1, h2⟩ := HC.out _ T2; obtain ⟨d0, d1, d2, d3, _⟩ := cells4 h2; obtain ⟨f0, f1, f2, f3, _⟩ := cells4 h1; clear h1 h2)
    | (go_at_call 38; have := T2; (with_reducible refine (G2.out _ T2).mono ?_); rintro e w3 ⟨rfl, T3⟩; obtain ⟨h1, h2⟩ := HC.out _ (T2.trans T3); obtain ⟨d0, d1, d2, d3, _⟩ := cells4 h2; obtain ⟨f0, f1, f2, f3, _⟩ := cells4 h1; clear h1 h2)
    | (go_at_call 135; refine (G3.out _ (T2.trans T3)).mono ?_; rintro e w4 ⟨rfl, T4⟩))
  go_ret2
  exact ⟨rfl, HT.out.trans (T2.trans (T3.trans T4))⟩
set_option maxHeartbeats 800000 in
theorem bad76 {p : Nat → Prop} {a b : LT} {w : World} (ha : a.In p w) (sa : slim a) (ga : goodB a = false) :
    Calls Try.prog 76 #[.string ⟨#[61, 61]⟩, a.val, b.val] w fun e w' => e = .returned (.tuple #[.bool false, .int .i64 1]) ∧ Turned (fun _ => False) w w' := by
  obtain ⟨b1, hb1⟩ : ∃ bx : Obj, bx = .cells #[.int .i64 a.kind, .int .i64 a.n, .string a.name, .slice a.at_.1 a.args.length a.at_.2] 27 := ⟨_, rfl⟩
  obtain ⟨b2, hb2⟩ : ∃ bx : Obj, bx = .cells #[.int .i64 b.kind, .int .i64 b.n, .string b.name, .slice b.at_.1 b.args.length b.at_.2] 27 := ⟨_, rfl⟩
  have T1 := ((Turned.refl (fun _ => False) w).alloc b1).alloc b2
  have hc : ∀ W, Turned (fun _ => False) ((w.alloc b1).alloc b2) W → W.heap[w.heap.size]? = some b1 ∧ W.heap[w.heap.size + 1]? = some b2 := by
    intro W h
    exact ⟨(h.block _ (by simp; omega) (fun f => f)).trans (heap_alloc2_old w b1 b2), (h.block _ (by simp) (fun f => f)).trans (heap_alloc2_new w b1 b2)⟩
  have g1 := fun W (h : Turned (fun _ => False) ((w.alloc b1).alloc b2) W) => good38 (ha.turned0 (T1.trans h)) sa
  rw [ga] at g1
  rw [LT.val_eq a] at g1 ⊢
  rw [LT.val_eq b] at ⊢
  subst hb1 hb2
  have G1 := Lib.hid g1
  have HT := Lib.hid T1
  clear g1 hc T1 ha sa ga
  go_enter Try.func76, Try.ntmps76
  go_wp2_with (go_at_call 38; refine (G1.out _ (Turned.refl _ _)).mono ?_; rintro e w2 ⟨rfl, T2⟩)
  go_ret2
  exact ⟨rfl, HT.out.trans T2⟩
set_option maxHeartbeats 800000 in
theorem bad68 {p : Nat → Prop} {a b : LT} {w : World} (ha : a.In p w) (sa : slim a) (ga : goodB a = false) :
    Calls Try.prog 68 #[a.val, b.val] w fun e w' => e = .returned (.int .i64 0) ∧ Turned (fun _ => False) w w' := by
  obtain ⟨b1, hb1⟩ : ∃ bx : Obj, bx = .cells #[.int .i64 a.kind, .int .i64 a.n, .string a.name, .slice a.at_.1 a.args.length a.at_.2] 27 := ⟨_, rfl⟩
  obtain ⟨b2, hb2⟩ : ∃ bx : Obj, bx = .cells #[.int .i64 b.kind, .int .i64 b.n, .string b.name, .slice b.at_.1 b.args.length b.at_.2] 27 := ⟨_, rfl⟩
  have T1 := ((Turned.refl (fun _ => False) w).alloc b1).alloc b2
  have hc : ∀ W, Turned (fun _ => False) ((w.alloc b1).alloc b2) W → W.heap[w.heap.size]? = some b1 ∧ W.heap[w.heap.size + 1]? = some b2 := by
    intro W h
    exact ⟨(h.block _ (by simp; omega) (fun f => f)).trans (heap_alloc2_old w b1 b2), (h.block _ (by simp) (fun f => f)).trans (heap_alloc2_new w b1 b2)⟩
  have g1 := fun W (h : Turned (fun _ => False) ((w.alloc b1).alloc b2) W) => good38 (ha.turned0 (T1.trans h)) sa
  rw [ga] at g1
  rw [LT.val_eq a] at g1 ⊢
  rw [LT.val_eq b] at ⊢
  subst hb1 hb2
  have G1 := Lib.hid g1
  have HT := Lib.hid T1
  clear g1 hc T1 ha sa ga
  go_enter Try.func68, Try.ntmps68
  go_wp2_with (go_at_call 38; refine (G1.out _ (Turned.refl _ _)).mono ?_; rintro e w2 ⟨rfl, T2⟩)
  go_ret
  exact ⟨rfl, HT.out.trans T2⟩
section
variable (a1 : Option Addr) (n1 : Nat) (a2 : Option Addr) (n2 : Nat) (a3 : Option Addr) (n3 : Nat) (a4 : Option Addr) (n4 : Nat)
def twelve : List LT := [leaf 0 2 ByteArray.empty, leaf 0 10 ByteArray.empty, leaf 1 (-5) ByteArray.empty, leaf 1 3 ByteArray.empty, leaf 2 0 ⟨#[]⟩, leaf 2 0 ⟨#[90]⟩, leaf 2 0 ⟨#[97]⟩, leaf 2 0 ⟨#[97, 98]⟩, .mk 2 0 ⟨#[122]⟩ (a1, n1) [leaf 1 9 ByteArray.empty], .mk 2 0 ⟨#[97]⟩ (a2, n2) [leaf 1 1 ByteArray.empty, leaf 1 2 ByteArray.empty], .mk 2 0 ⟨#[97]⟩ (a3, n3) [leaf 1 1 ByteArray.empty, leaf 1 3 ByteArray.empty], .mk 2 0 ⟨#[98]⟩ (a4, n4) [leaf 1 0 ByteArray.empty, leaf 1 0 ByteArray.empty]]
def want (i k : Nat) : Int := if i < k then -1 else if i = k then 0 else 1
theorem twelve_chk : ((List.range 12).all fun i => (List.range 12).all fun k => match (twelve a1 n1 a2 n2 a3 n3 a4 n4)[i]?, (twelve a1 n1 a2 n2 a3 n3 a4 n4)[k]? with
    | some x, some y => Tm.cmp x y == want i k
    | _, _ => false) = true := by kernel_rfl
theorem twelve_cmp {i k : Nat} {x y : LT} (hi : i < 12) (hk : k < 12) (hx : (twelve a1 n1 a2 n2 a3 n3 a4 n4)[i]? = some x) (hy : (twelve a1 n1 a2 n2 a3 n3 a4 n4)[k]? = some y) : Tm.cmp x y = want i k := by
  have h := List.all_eq_true.1 (List.all_eq_true.1 (twelve_chk a1 n1 a2 n2 a3 n3 a4 n4) i (List.mem_range.2 hi)) k (List.mem_range.2 hk)
  rw [hx, hy] at h
  exact eq_of_beq h
theorem twelve_good : ∀ x ∈ twelve a1 n1 a2 n2 a3 n3 a4 n4, goodB x = true ∧ slim x := by
  have h : (twelve a1 n1 a2 n2 a3 n3 a4 n4).all (fun x => goodB x && x.flat.all fun y => decide (y.args.length ≤ 12)) = true := by kernel_rfl
  intro x hx
  have := List.all_eq_true.1 h x hx
  simp only [Bool.and_eq_true, List.all_eq_true] at this
  exact ⟨this.1, fun y hy => of_decide_eq_true (this.2 y hy)⟩
end
set_option maxRecDepth 100000 in
set_option maxHeartbeats 6400000 in
theorem orderKnown (w : World) : Calls Try.prog 15 #[] w fun e w' => e = .returned (.bool true) ∧ Turned (fun _ => False) w w' := by
  go_enter Try.func15, Try.ntmps15
  go_wp2_with (first
    | (go_at_call 37; have := T18; refine (compV ⟨#[98]⟩ (by unfold maxLen; decide) 2 (by decide) rfl (sl_made (l := [leaf 1 0 ByteArray.empty, leaf 1 0 ByteArray.empty]) ⟨i17.turned0 T18, i18, trivial⟩ 2 (by decide) rfl _ rfl)).mono ?_; rintro e W19 ⟨a4, n4, rfl, i19, T19⟩)
    | (go_at_call 61; have := T17; refine (intV 0 (i64_lit _ (by omega)) _).mono ?_; rintro e W18 ⟨rfl, i18, T18⟩)
    | (go_at_call 61; have := T16; refine (intV 0 (i64_lit _ (by omega)) _).mono ?_; rintro e W17 ⟨rfl, i17, T17⟩)
    | (go_at_call 37; have := T15; refine (compV ⟨#[97]⟩ (by unfold maxLen; decide) 2 (by decide) rfl (sl_made (l := [leaf 1 1 ByteArray.empty, leaf 1 3 ByteArray.empty]) ⟨i14.turned0 T15, i15, trivial⟩ 2 (by decide) rfl _ rfl)).mono ?_; rintro e W16 ⟨a3, n3, rfl, i16, T16⟩)
    | (go_at_call 61; have := T14; refine (intV 3 (i64_lit _ (by omega)) _).mono ?_; rintro e W15 ⟨rfl, i15, T15⟩)
    | (go_at_call 61; have := T13; refine (intV 1 (i64_lit _ (by omega)) _).mono ?_; rintro e W14 ⟨rfl, i14, T14⟩)
    | (go_at_call 37; have := T12; refine (compV ⟨#[97]⟩ (by unfold maxLen; decide) 2 (by decide) rfl (sl_made (l := [leaf 1 1 ByteArray.empty, leaf 1 2 ByteArray.empty]) ⟨i11.turned0 T12, i12, trivial⟩ 2 (by decide) rfl _ rfl)).mono ?_; rintro e W13 ⟨a2, n2, rfl, i13, T13⟩)
    | (go_at_call 61; have := T11; refine (intV 2 (i64_lit _ (by omega)) _).mono ?_; rintro e W12 ⟨rfl, i12, T12⟩)
    | (go_at_call 61; have := T10; refine (intV 1 (i64_lit _ (by omega)) _).mono ?_; rintro e W11 ⟨rfl, i11, T11⟩)
    | (go_at_call 37; have := T9; refine (compV ⟨#[122]⟩ (by unfold maxLen; decide) 1 (by decide) rfl (sl_made (l := [leaf 1 9 ByteArray.empty]) ⟨i9, trivial⟩ 1 (by decide) rfl _ rfl)).mono ?_; rintro e W10 ⟨a1, n1, rfl, i10, T10⟩)
    | (go_at_call 61; have := T8; refine (intV 9 (i64_lit _ (by omega)) _).mono ?_; rintro e W9 ⟨rfl, i9, T9⟩)
    | (go_at_call 63; have := T7; refine (atomV ⟨#[97, 98]⟩ (by unfold maxLen; decide) _).mono ?_; rintro e W8 ⟨rfl, i8, T8⟩)
    | (go_at_call 63; have := T6; refine (atomV ⟨#[97]⟩ (by unfold maxLen; decide) _).mono ?_; rintro e W7 ⟨rfl, i7, T7⟩)
    | (go_at_call 63; have := T5; refine (atomV ⟨#[90]⟩ (by unfold maxLen; decide) _).mono ?_; rintro e W6 ⟨rfl, i6, T6⟩)
    | (go_at_call 63; have := T4; refine (atomV ⟨#[]⟩ (by unfold maxLen; decide) _).mono ?_; rintro e W5 ⟨rfl, i5, T5⟩)
    | (go_at_call 61; have := T3; refine (intV 3 (i64_lit _ (by omega)) _).mono ?_; rintro e W4 ⟨rfl, i4, T4⟩)
    | (go_at_call 61; have := T2; refine (intV (-5) (i64_lit _ (by omega)) _).mono ?_; rintro e W3 ⟨rfl, i3, T3⟩)
    | (go_at_call 62; have := T1; refine (varV 10 (i64_lit _ (by omega)) _).mono ?_; rintro e W2 ⟨rfl, i2, T2⟩)
    | (go_at_call 62; have := T0; refine (varV 2 (i64_lit _ (by omega)) _).mono ?_; rintro e W1 ⟨rfl, i1, T1⟩)
    | (go_at_call 65; refine (awake65 _).mono ?_; rintro e W0 ⟨rfl, T0⟩))
  have V19 : Turned (fun _ => False) W19 W19 := Turned.refl _ _
  have V18 : Turned (fun _ => False) W18 W19 := Turned.trans (((Turned.refl _ W18).alloc _).trans T19) V19
  have V17 : Turned (fun _ => False) W17 W19 := Turned.trans T18 V18
  have V16 : Turned (fun _ => False) W16 W19 := Turned.trans T17 V17
  have V15 : Turned (fun _ => False) W15 W19 := Turned.trans (((Turned.refl _ W15).alloc _).trans T16) V16
  have V14 : Turned (fun _ => False) W14 W19 := Turned.trans T15 V15
  have V13 : Turned (fun _ => False) W13 W19 := Turned.trans T14 V14
  have V12 : Turned (fun _ => False) W12 W19 := Turned.trans (((Turned.refl _ W12).alloc _).trans T13) V13
  have V11 : Turned (fun _ => False) W11 W19 := Turned.trans T12 V12
  have V10 : Turned (fun _ => False) W10 W19 := Turned.trans T11 V11
  have V9 : Turned (fun _ => False) W9 W19 := Turned.trans (((Turned.refl _ W9).alloc _).trans T10) V10
  have V8 : Turned (fun _ => False) W8 W19 := Turned.trans T9 V9
  have V7 : Turned (fun _ => False) W7 W19 := Turned.trans T8 V8
  have V6 : Turned (fun _ => False) W6 W19 := Turned.trans T7 V7
  have V5 : Turned (fun _ => False) W5 W19 := Turned.trans T6 V6
  have V4 : Turned (fun _ => False) W4 W19 := Turned.trans T5 V5
  have V3 : Turned (fun _ => False) W3 W19 := Turned.trans T4 V4
  have V2 : Turned (fun _ => False) W2 W19 := Turned.trans T3 V3
  have V1 : Turned (fun _ => False) W1 W19 := Turned.trans T2 V2
  have V0 : Turned (fun _ => False) W0 W19 := Turned.trans T1 V1
  have hsl := sl_made (w := W19) (l := twelve a1 n1 a2 n2 a3 n3 a4 n4) ⟨i1.turned0 V1, i2.turned0 V2, i3.turned0 V3, i4.turned0 V4, i5.turned0 V5, i6.turned0 V6, i7.turned0 V7, i8.turned0 V8, i10.turned0 V10, i13.turned0 V13, i16.turned0 V16, i19.turned0 V19, trivial⟩ 12 (by decide) rfl _ rfl
  have HSL : Hid (LT.Sl (fun _ => True) (W19.alloc (.cells #[.int .i64 0, .int .i64 2, .string ByteArray.empty, .slice none 0 0, .int .i64 0, .int .i64 10, .string ByteArray.empty, .slice none 0 0, .int .i64 1, .int .i64 (-5), .string ByteArray.empty, .slice none 0 0, .int .i64 1, .int .i64 3, .string ByteArray.empty, .slice none 0 0, .int .i64 2, .int .i64 0, .string ⟨#[]⟩, .slice none 0 0, .int .i64 2, .int .i64 0, .string ⟨#[90]⟩, .slice none 0 0, .int .i64 2, .int .i64 0, .string ⟨#[97]⟩, .slice none 0 0, .int .i64 2, .int .i64 0, .string ⟨#[97, 98]⟩, .slice none 0 0, .int .i64 2, .int .i64 0, .string ⟨#[122]⟩, .slice a1 1 n1, .int .i64 2, .int .i64 0, .string ⟨#[97]⟩, .slice a2 2 n2, .int .i64 2, .int .i64 0, .string ⟨#[97]⟩, .slice a3 2 n3, .int .i64 2, .int .i64 0, .string ⟨#[98]⟩, .slice a4 2 n4] 27)) (some ⟨W19.heap.size, 0, none⟩) 12 (twelve a1 n1 a2 n2 a3 n3 a4 n4)) := hsl
  have HT0 : Hid (Turned (fun _ => False) w (W19.alloc (.cells #[.int .i64 0, .int .i64 2, .string ByteArray.empty, .slice none 0 0, .int .i64 0, .int .i64 10, .string ByteArray.empty, .slice none 0 0, .int .i64 1, .int .i64 (-5), .string ByteArray.empty, .slice none 0 0, .int .i64 1, .int .i64 3, .string ByteArray.empty, .slice none 0 0, .int .i64 2, .int .i64 0, .string ⟨#[]⟩, .slice none 0 0, .int .i64 2, .int .i64 0, .string ⟨#[90]⟩, .slice none 0 0, .int .i64 2, .int .i64 0, .string ⟨#[97]⟩, .slice none 0 0, .int .i64 2, .int .i64 0, .string ⟨#[97, 98]⟩, .slice none 0 0, .int .i64 2, .int .i64 0, .string ⟨#[122]⟩, .slice a1 1 n1, .int .i64 2, .int .i64 0, .string ⟨#[97]⟩, .slice a2 2 n2, .int .i64 2, .int .i64 0, .string ⟨#[97]⟩, .slice a3 2 n3, .int .i64 2, .int .i64 0, .string ⟨#[98]⟩, .slice a4 2 n4] 27))) := (T0.trans V0).alloc _
  clear hsl this V0 V1 V2 V3 V4 V5 V6 V7 V8 V9 V10 V11 V12 V13 V14 V15 V16 V17 V18 V19 T0 T1 T2 T3 T4 T5 T6 T7 T8 T9 T10 T11 T12 T13 T14 T15 T16 T17 T18 T19 i1 i2 i3 i4 i5 i6 i7 i8 i9 i10 i11 i12 i13 i14 i15 i16 i17 i18 i19
  have HTB := And.intro HSL HT0
  clear HSL HT0
  revert HTB
  generalize W19.alloc (.cells #[.int .i64 0, .int .i64 2, .string ByteArray.empty, .slice none 0 0, .int .i64 0, .int .i64 10, .string ByteArray.empty, .slice none 0 0, .int .i64 1, .int .i64 (-5), .string ByteArray.empty, .slice none 0 0, .int .i64 1, .int .i64 3, .string ByteArray.empty, .slice none 0 0, .int .i64 2, .int .i64 0, .string ⟨#[]⟩, .slice none 0 0, .int .i64 2, .int .i64 0, .string ⟨#[90]⟩, .slice none 0 0, .int .i64 2, .int .i64 0, .string ⟨#[97]⟩, .slice none 0 0, .int .i64 2, .int .i64 0, .string ⟨#[97, 98]⟩, .slice none 0 0, .int .i64 2, .int .i64 0, .string ⟨#[122]⟩, .slice a1 1 n1, .int .i64 2, .int .i64 0, .string ⟨#[97]⟩, .slice a2 2 n2, .int .i64 2, .int .i64 0, .string ⟨#[97]⟩, .slice a3 2 n3, .int .i64 2, .int .i64 0, .string ⟨#[98]⟩, .slice a4 2 n4] 27) = w6
  generalize W19.heap.size = g
  intro HTB
  obtain ⟨HSL, HT0⟩ := HTB
  obtain ⟨L, hL⟩ : ∃ z, z = twelve a1 n1 a2 n2 a3 n3 a4 n4 := ⟨_, rfl⟩
  have HG1 : Hid (∀ x ∈ L, goodB x = true ∧ slim x) := by show ∀ x ∈ L, _; rw [hL]; exact twelve_good a1 n1 a2 n2 a3 n3 a4 n4
  have HCM : Hid (∀ (i k : Nat) (x y : LT), i < 12 → k < 12 → L[i]? = some x → L[k]? = some y → Tm.cmp x y = want i k) := by show ∀ (i k : Nat) (x y : LT), _; rw [hL]; exact fun i k x y h1 h2 h3 h4 => twelve_cmp a1 n1 a2 n2 a3 n3 a4 n4 h1 h2 h3 h4
  have HLN : Hid (L.length = 12) := by show _ = _; rw [hL]; rfl
  obtain ⟨l0, l1, l9, e0, e1, e9⟩ : ∃ l0 l1 l9 : LT, L[0]? = some l0 ∧ L[1]? = some l1 ∧ L[9]? = some l9 := by rw [hL]; exact ⟨_, _, _, rfl, rfl, rfl⟩
  have H9 : Hid (Tm.place l9 = 3 ∧ l9.name = ⟨#[97]⟩ ∧ l9.args.length = 2) := by
    rw [hL] at e9
    injection e9 with e9
    subst e9
    exact ⟨by kernel_rfl, rfl, rfl⟩
  rw [← hL] at HSL
  have HL := Lib.hid hL
  clear hL
  have HAT : Hid (∀ (j : Nat) (x : LT) W, L[j]? = some x → Turned (fun _ => False) w6 W → x.In (fun _ => True) W ∧ W.cell? ⟨g, j * 4, none⟩ = some (.int .i64 x.kind) ∧ W.cell? ⟨g, j * 4 + 1, none⟩ = some (.int .i64 x.n) ∧ W.cell? ⟨g, j * 4 + 2, none⟩ = some (.string x.name) ∧ W.cell? ⟨g, j * 4 + 3, none⟩ = some (.slice x.at_.1 x.args.length x.at_.2)) := fun j x W hx h => by
    have hw := HSL.out.turned0 h
    obtain ⟨b, o, hb, _, c0, c1, c2, c3⟩ := hw.lies.cell hx
    injection hb with hb; injection hb with hb ho; subst hb ho
    simp only [Nat.zero_add] at c0 c1 c2 c3
    exact ⟨(LT.ins_iff _).1 hw.ins x (List.mem_of_getElem? hx), c0, c1, c2, c3⟩
  go_loopg [2] 12 (fun q i wr => ∃ j : Nat, Hid (j + q = 12) ∧ j ≤ 12 ∧ i = .int .i64 j ∧ Turned (fun _ => False) w6 wr)
  case atStart => exact ⟨0, Nat.zero_add _, Nat.zero_le _, rfl, Turned.refl _ _⟩
  case round =>
    obtain ⟨j, HG, hj, rfl, Tr⟩ := hrel
    obtain ⟨wo, rfl⟩ : ∃ wo : World, wo = wr := ⟨_, rfl⟩
    obtain ⟨gp, rfl⟩ : ∃ gp : Nat, gp = gk := ⟨_, rfl⟩
    by_cases hjl : j < 12
    · obtain ⟨x, hx⟩ : ∃ x, L[j]? = some x := ⟨_, List.getElem?_eq_getElem (by rw [HLN.out]; exact hjl)⟩
      have HX := Lib.hid hx
      clear hx
      have zj : decide ((j : Int) < 12) = true := by simp; omega
      go_wp2_with fail
      go_loopg [3] 12 (fun q i wr => ∃ k : Nat, Hid (k + q = 12) ∧ k ≤ 12 ∧ i = .int .i64 k ∧ Turned (fun _ => False) wo wr)
      case atStart => exact ⟨0, Nat.zero_add _, Nat.zero_le _, rfl, Turned.refl _ _⟩
      case round =>
        obtain ⟨k, HK, hk, rfl, Tk⟩ := hrel
        by_cases hkl : k < 12
        · obtain ⟨y, hy⟩ : ∃ y, L[k]? = some y := ⟨_, List.getElem?_eq_getElem (by rw [HLN.out]; exact hkl)⟩
          have hcv := HCM.out j k x y hjl hkl HX.out hy
          obtain ⟨xin, x0, x1, x2, x3⟩ := HAT.out j x wr HX.out (Tr.trans Tk)
          obtain ⟨yin, y0, y1, y2, y3⟩ := HAT.out k y wr hy (Tr.trans Tk)
          obtain ⟨gx, sx⟩ := HG1.out x (List.mem_of_getElem? HX.out)
          obtain ⟨gy, sy⟩ := HG1.out y (List.mem_of_getElem? hy)
          have hxy := fun W (h : Turned (fun _ => False) wr W) => cmp68 (xin.turned0 h) (yin.turned0 h) sx sy gx gy
          obtain ⟨c, hc⟩ : ∃ c, c = Tm.cmp x y := ⟨_, rfl⟩
          rw [← hc, LT.val_eq x, LT.val_eq y] at hxy
          rw [← hc] at hcv
          have HXY := Lib.hid hxy
          have HCV := Lib.hid hcv
          clear hxy hcv hc xin yin gx sx gy sy hy
          go_wp2_with fail
          refine wp_region_hs [52, 53, 54, 55, 56, 57, 58, 59, 60, 4] [] [0, 0, 0, 0, 0, 0, 0, 0, 0, 0] [] (fun d v => (match d with | 52 => v = .slice (some ⟨g, 0, none⟩) 12 12 | 53 => v = .int .i64 (j : Int) | 54 => v = .pointer (some ⟨g, j * 4, none⟩) | 55 => v = .agg #[.int .i64 x.kind, .int .i64 x.n, .string x.name, .slice x.at_.1 x.args.length x.at_.2] | 56 => v = .slice (some ⟨g, 0, none⟩) 12 12 | 57 => v = .int .i64 (k : Int) | 58 => v = .pointer (some ⟨g, k * 4, none⟩) | 59 => v = .agg #[.int .i64 y.kind, .int .i64 y.n, .string y.name, .slice y.at_.1 y.args.length y.at_.2] | 60 => v = .int .i64 c | 4 => v = .int .i64 c | _ => True : Prop)) (fun _ W => Turned (fun _ => False) wr W) (by kernel_rfl) rfl (by kernel_rfl) (by kernel_rfl) (by kernel_rfl) (by kernel_rfl) (fun _ h => h) (fun _ _ _ h ht => h.trans ht) ?hs ?hQ
          case hs =>
            refine ⟨?s0, ?s1, ?s2, ?s3, ?s4, ?s5, ?s6, ?s7, ?s8, ?s9, trivial⟩
            case s0 =>
              refine fun hs hle => stepG_free [] [1] (by kernel_rfl) rfl ?_
              · intro ac W hT hI hO
                have h1 : ac.tmps.getD 1 undef = .slice (some ⟨g, 0, none⟩) 12 12 := hO 1 (by simp)
                show Brings Try.prog (fun v w' => Turned (fun _ => False) W w' ∧ v = .slice (some ⟨g, 0, none⟩) 12 12) _
                simp only [execOp, Act.eval, h1]
                go_simp
                try exact ⟨Turned.refl _ _, rfl⟩
            case s1 =>
              refine fun hs hle => stepG_free [] [2] (by kernel_rfl) rfl ?_
              · intro ac W hT hI hO
                have h2 : ac.tmps.getD 2 undef = .int .i64 (j : Int) := hO 2 (by simp)
                show Brings Try.prog (fun v w' => Turned (fun _ => False) W w' ∧ v = .int .i64 (j : Int)) _
                simp only [execOp, Act.eval, h2]
                go_simp
                try exact ⟨Turned.refl _ _, rfl⟩
            case s2 =>
              refine fun hs hle => stepG_free [52, 53] [] (by kernel_rfl) rfl ?_
              · intro ac W hT hI hO
                have h52 : ac.tmps.getD 52 undef = .slice (some ⟨g, 0, none⟩) 12 12 := hI 52 (by simp)
                have h53 : ac.tmps.getD 53 undef = .int .i64 (j : Int) := hI 53 (by simp)
                show Brings Try.prog (fun v w' => Turned (fun _ => False) W w' ∧ v = .pointer (some ⟨g, j * 4, none⟩)) _
                simp only [execOp, Act.eval, h52, h53]
                go_simp
                try rw [if_pos (by omega)]
                try exact ⟨Turned.refl _ _, rfl⟩
            case s3 =>
              refine fun hs hle => stepG_free [54] [] (by kernel_rfl) rfl ?_
              · intro ac W hT hI hO
                have h54 : ac.tmps.getD 54 undef = .pointer (some ⟨g, j * 4, none⟩) := hI 54 (by simp)
                show Brings Try.prog (fun v w' => Turned (fun _ => False) W w' ∧ v = .agg #[.int .i64 x.kind, .int .i64 x.n, .string x.name, .slice x.at_.1 x.args.length x.at_.2]) _
                have x0 := hT.cell0 x0; have x1 := hT.cell0 x1; have x2 := hT.cell0 x2; have x3 := hT.cell0 x3; have y0 := hT.cell0 y0; have y1 := hT.cell0 y1; have y2 := hT.cell0 y2; have y3 := hT.cell0 y3
                simp only [execOp, Act.eval, h54]
                go_simp
                exact ⟨Turned.refl _ _, rfl⟩
            case s4 =>
              refine fun hs hle => stepG_free [] [1] (by kernel_rfl) rfl ?_
              · intro ac W hT hI hO
                have h1 : ac.tmps.getD 1 undef = .slice (some ⟨g, 0, none⟩) 12 12 := hO 1 (by simp)
                show Brings Try.prog (fun v w' => Turned (fun _ => False) W w' ∧ v = .slice (some ⟨g, 0, none⟩) 12 12) _
                simp only [execOp, Act.eval, h1]
                go_simp
                try exact ⟨Turned.refl _ _, rfl⟩
            case s5 =>
              refine fun hs hle => stepG_free [] [3] (by kernel_rfl) rfl ?_
              · intro ac W hT hI hO
                have h3 : ac.tmps.getD 3 undef = .int .i64 (k : Int) := hO 3 (by simp)
                show Brings Try.prog (fun v w' => Turned (fun _ => False) W w' ∧ v = .int .i64 (k : Int)) _
                simp only [execOp, Act.eval, h3]
                go_simp
                try exact ⟨Turned.refl _ _, rfl⟩
            case s6 =>
              refine fun hs hle => stepG_free [56, 57] [] (by kernel_rfl) rfl ?_
              · intro ac W hT hI hO
                have h56 : ac.tmps.getD 56 undef = .slice (some ⟨g, 0, none⟩) 12 12 := hI 56 (by simp)
                have h57 : ac.tmps.getD 57 undef = .int .i64 (k : Int) := hI 57 (by simp)
                show Brings Try.prog (fun v w' => Turned (fun _ => False) W w' ∧ v = .pointer (some ⟨g, k * 4, none⟩)) _
                simp only [execOp, Act.eval, h56, h57]
                go_simp
                try rw [if_pos (by omega)]
                try exact ⟨Turned.refl _ _, rfl⟩
            case s7 =>
              refine fun hs hle => stepG_free [58] [] (by kernel_rfl) rfl ?_
              · intro ac W hT hI hO
                have h58 : ac.tmps.getD 58 undef = .pointer (some ⟨g, k * 4, none⟩) := hI 58 (by simp)
                show Brings Try.prog (fun v w' => Turned (fun _ => False) W w' ∧ v = .agg #[.int .i64 y.kind, .int .i64 y.n, .string y.name, .slice y.at_.1 y.args.length y.at_.2]) _
                have x0 := hT.cell0 x0; have x1 := hT.cell0 x1; have x2 := hT.cell0 x2; have x3 := hT.cell0 x3; have y0 := hT.cell0 y0; have y1 := hT.cell0 y1; have y2 := hT.cell0 y2; have y3 := hT.cell0 y3
                simp only [execOp, Act.eval, h58]
                go_simp
                exact ⟨Turned.refl _ _, rfl⟩
            case s8 =>
              refine fun hs hle => stepG_free [55, 59] [] (by kernel_rfl) rfl ?_
              · intro ac W hT hI hO
                have h55 : ac.tmps.getD 55 undef = .agg #[.int .i64 x.kind, .int .i64 x.n, .string x.name, .slice x.at_.1 x.args.length x.at_.2] := hI 55 (by simp)
                have h59 : ac.tmps.getD 59 undef = .agg #[.int .i64 y.kind, .int .i64 y.n, .string y.name, .slice y.at_.1 y.args.length y.at_.2] := hI 59 (by simp)
                show Brings Try.prog (fun v w' => Turned (fun _ => False) W w' ∧ v = .int .i64 c) _
                simp only [execOp, Act.eval, h55, h59]
                go_simp
                show Calls Try.prog 68 _ W _
                (with_reducible refine (HXY.out W hT).mono ?_)
                rintro e w' ⟨rfl, T'⟩
                exact ⟨_, rfl, T', rfl⟩
            case s9 =>
              refine fun hs hle => stepG_free [60] [] (by kernel_rfl) rfl ?_
              · intro ac W hT hI hO
                have h60 : ac.tmps.getD 60 undef = .int .i64 c := hI 60 (by simp)
                show Brings Try.prog (fun v w' => Turned (fun _ => False) W w' ∧ v = .int .i64 c) _
                simp only [execOp, Act.eval, h60]
                go_simp
                try exact ⟨Turned.refl _ _, rfl⟩
          case hQ =>
            intro hs vq w8 hlen T8 hV
            have q4 : vq 4 = .int .i64 c := hV 4 (by simp)
            clear hV hs hlen
            rcases Nat.lt_trichotomy j k with h | h | h
            · have hcc : c = -1 := by rw [HCV.out]; unfold want; rw [if_pos h]
              rw [hcc] at q4
              have t1 : decide ((j : Int) < (k : Int)) = true := by simp; omega
              have t2 : ((j : Int) == (k : Int)) = false := by rw [beq_eq_false_iff_ne]; omega
              have t3 : decide ((k : Int) < (j : Int)) = false := by simp; omega
              have t4 : decide (j < k) = true := by simp [h]
              have t5 : (j == k) = false := by rw [beq_eq_false_iff_ne]; omega
              have t6 : decide (k < j) = false := by simp; omega
              clear hcc HCV
              simp only [List.foldl_cons, List.foldl_nil, List.setIfInBounds_toArray, List.set_cons_zero, List.set_cons_succ, q4]
              clear q4
              go_wp2_with fail
              all_goals try (exfalso; omega)
              go_roundg (gk - 1)
              case measure => have := HK.out; omega
              case rel => exact ⟨k + 1, show _ = _ by have := HK.out; omega, by omega, by go_num, Tk.trans T8⟩
            · have hcc : c = 0 := by rw [HCV.out]; unfold want; rw [if_neg (by omega), if_pos h]
              rw [hcc] at q4
              have t1 : decide ((j : Int) < (k : Int)) = false := by simp; omega
              have t2 : ((j : Int) == (k : Int)) = true := by rw [beq_iff_eq]; omega
              have t3 : decide ((k : Int) < (j : Int)) = false := by simp; omega
              have t4 : decide (j < k) = false := by simp; omega
              have t5 : (j == k) = true := by rw [beq_iff_eq]; exact h
              have t6 : decide (k < j) = false := by simp; omega
              have h1 : j ≤ k := by omega
              have h2 : k ≤ j := by omega
              clear h hcc HCV
              simp only [List.foldl_cons, List.foldl_nil, List.setIfInBounds_toArray, List.set_cons_zero, List.set_cons_succ, q4]
              clear q4
              go_wp2_with fail
              all_goals try (exfalso; omega)
              go_roundg (gk - 1)
              case measure => have := HK.out; omega
              case rel => exact ⟨k + 1, show _ = _ by have := HK.out; omega, by omega, by go_num, Tk.trans T8⟩
            · have hcc : c = 1 := by rw [HCV.out]; unfold want; rw [if_neg (by omega), if_neg (by omega)]
              rw [hcc] at q4
              have t1 : decide ((j : Int) < (k : Int)) = false := by simp; omega
              have t2 : ((j : Int) == (k : Int)) = false := by rw [beq_eq_false_iff_ne]; omega
              have t3 : decide ((k : Int) < (j : Int)) = true := by simp; omega
              have t4 : decide (j < k) = false := by simp; omega
              have t5 : (j == k) = false := by rw [beq_eq_false_iff_ne]; omega
              have t6 : decide (k < j) = true := by simp [h]
              clear hcc HCV
              simp only [List.foldl_cons, List.foldl_nil, List.setIfInBounds_toArray, List.set_cons_zero, List.set_cons_succ, q4]
              clear q4
              go_wp2_with fail
              all_goals try (exfalso; omega)
              go_roundg (gk - 1)
              case measure => have := HK.out; omega
              case rel => exact ⟨k + 1, show _ = _ by have := HK.out; omega, by omega, by go_num, Tk.trans T8⟩
        · go_wp2_with fail
          go_roundg (gp - 1)
          case measure => have := HG.out; omega
          case rel => exact ⟨j + 1, show _ = _ by have := HG.out; omega, by omega, by go_num, Tr.trans Tk⟩
    · obtain ⟨i0, p0, p1, p2, p3⟩ := HAT.out 0 l0 wo e0 Tr
      obtain ⟨i1, r0, r1, r2, r3⟩ := HAT.out 1 l1 wo e1 Tr
      simp only [Nat.zero_mul, Nat.zero_add] at p0 p1 p2 p3
      simp only [Nat.one_mul] at r0 r1 r2 r3
      obtain ⟨g0, s0⟩ := HG1.out l0 (List.mem_of_getElem? e0)
      obtain ⟨g1, s1⟩ := HG1.out l1 (List.mem_of_getElem? e1)
      have hte := fun W (h : Turned (fun _ => False) wo W) => testEq76 _ rfl (i0.turned0 h) (i1.turned0 h) s0 s1 g0 g1
      rw [LT.val_eq l0, LT.val_eq l1] at hte
      have HTE := Lib.hid hte
      have HP := Lib.hid (And.intro p0 (And.intro p1 (And.intro p2 p3)))
      have HR := Lib.hid (And.intro r0 (And.intro r1 (And.intro r2 r3)))
      have HI0 := Lib.hid i0
      clear hte i1 g1 s1 r0 r1 r2 r3 p0 p1 p2 p3 i0
      have HG0 := Lib.hid g0
      have HS0 := Lib.hid s0
      have HE9 := Lib.hid e9
      clear g0 s0 e0 e1 e9
      go_wp2_with fail
      refine wp_region_hs [87, 88, 89, 90, 91, 92, 93, 86, 94, 95, 5, 6] [] [0, 0, 0, 0, 0, 0, 0, 0, 0, 0, 0, 0] [] (fun d v => (match d with | 87 => v = .slice (some ⟨g, 0, none⟩) 12 12 | 88 => v = .pointer (some ⟨g, 0, none⟩) | 89 => v = .agg #[.int .i64 l0.kind, .int .i64 l0.n, .string l0.name, .slice l0.at_.1 l0.args.length l0.at_.2] | 90 => v = .slice (some ⟨g, 0, none⟩) 12 12 | 91 => v = .pointer (some ⟨g, 4, none⟩) | 92 => v = .agg #[.int .i64 l1.kind, .int .i64 l1.n, .string l1.name, .slice l1.at_.1 l1.args.length l1.at_.2] | 93 => v = .tuple #[.bool false, .int .i64 1] | 86 => v = .tuple #[.bool false, .int .i64 1] | 94 => v = .bool false | 95 => v = .int .i64 1 | 5 => v = .bool false | 6 => v = .int .i64 1 | _ => True : Prop)) (fun _ W => Turned (fun _ => False) wo W) (by kernel_rfl) rfl (by kernel_rfl) (by kernel_rfl) (by kernel_rfl) (by kernel_rfl) (fun _ h => h) (fun _ _ _ h ht => h.trans ht) ?hs ?hQ
      case hs =>
        refine ⟨?s0, ?s1, ?s2, ?s3, ?s4, ?s5, ?s6, ?s7, ?s8, ?s9, ?s10, ?s11, trivial⟩
        case s0 =>
          refine fun hs hle => stepG_free [] [1] (by kernel_rfl) rfl ?_
          · intro ac W hT hI hO
            have h1 : ac.tmps.getD 1 undef = .slice (some ⟨g, 0, none⟩) 12 12 := hO 1 (by simp)
            show Brings Try.prog (fun v w' => Turned (fun _ => False) W w' ∧ v = .slice (some ⟨g, 0, none⟩) 12 12) _
            simp only [execOp, Act.eval, h1]
            go_simp
            try exact ⟨Turned.refl _ _, rfl⟩
        case s1 =>
          refine fun hs hle => stepG_free [87] [] (by kernel_rfl) rfl ?_
          · intro ac W hT hI hO
            have h87 : ac.tmps.getD 87 undef = .slice (some ⟨g, 0, none⟩) 12 12 := hI 87 (by simp)
            show Brings Try.prog (fun v w' => Turned (fun _ => False) W w' ∧ v = .pointer (some ⟨g, 0, none⟩)) _
            simp only [execOp, Act.eval, h87]
            go_simp
            try rw [if_pos (by omega)]
            try exact ⟨Turned.refl _ _, rfl⟩
        case s2 =>
          refine fun hs hle => stepG_free [88] [] (by kernel_rfl) rfl ?_
          · intro ac W hT hI hO
            have h88 : ac.tmps.getD 88 undef = .pointer (some ⟨g, 0, none⟩) := hI 88 (by simp)
            show Brings Try.prog (fun v w' => Turned (fun _ => False) W w' ∧ v = .agg #[.int .i64 l0.kind, .int .i64 l0.n, .string l0.name, .slice l0.at_.1 l0.args.length l0.at_.2]) _
            obtain ⟨p0, p1, p2, p3⟩ := HP.out; obtain ⟨r0, r1, r2, r3⟩ := HR.out; have p0 := hT.cell0 p0; have p1 := hT.cell0 p1; have p2 := hT.cell0 p2; have p3 := hT.cell0 p3; have r0 := hT.cell0 r0; have r1 := hT.cell0 r1; have r2 := hT.cell0 r2; have r3 := hT.cell0 r3
            simp only [execOp, Act.eval, h88]
            go_simp
            exact ⟨Turned.refl _ _, rfl⟩
        case s3 =>
          refine fun hs hle => stepG_free [] [1] (by kernel_rfl) rfl ?_
          · intro ac W hT hI hO
            have h1 : ac.tmps.getD 1 undef = .slice (some ⟨g, 0, none⟩) 12 12 := hO 1 (by simp)
            show Brings Try.prog (fun v w' => Turned (fun _ => False) W w' ∧ v = .slice (some ⟨g, 0, none⟩) 12 12) _
            simp only [execOp, Act.eval, h1]
            go_simp
            try exact ⟨Turned.refl _ _, rfl⟩
        case s4 =>
          refine fun hs hle => stepG_free [90] [] (by kernel_rfl) rfl ?_
          · intro ac W hT hI hO
            have h90 : ac.tmps.getD 90 undef = .slice (some ⟨g, 0, none⟩) 12 12 := hI 90 (by simp)
            show Brings Try.prog (fun v w' => Turned (fun _ => False) W w' ∧ v = .pointer (some ⟨g, 4, none⟩)) _
            simp only [execOp, Act.eval, h90]
            go_simp
            try rw [if_pos (by omega)]
            try exact ⟨Turned.refl _ _, rfl⟩
        case s5 =>
          refine fun hs hle => stepG_free [91] [] (by kernel_rfl) rfl ?_
          · intro ac W hT hI hO
            have h91 : ac.tmps.getD 91 undef = .pointer (some ⟨g, 4, none⟩) := hI 91 (by simp)
            show Brings Try.prog (fun v w' => Turned (fun _ => False) W w' ∧ v = .agg #[.int .i64 l1.kind, .int .i64 l1.n, .string l1.name, .slice l1.at_.1 l1.args.length l1.at_.2]) _
            obtain ⟨p0, p1, p2, p3⟩ := HP.out; obtain ⟨r0, r1, r2, r3⟩ := HR.out; have p0 := hT.cell0 p0; have p1 := hT.cell0 p1; have p2 := hT.cell0 p2; have p3 := hT.cell0 p3; have r0 := hT.cell0 r0; have r1 := hT.cell0 r1; have r2 := hT.cell0 r2; have r3 := hT.cell0 r3
            simp only [execOp, Act.eval, h91]
            go_simp
            exact ⟨Turned.refl _ _, rfl⟩
        case s6 =>
          refine fun hs hle => stepG_free [89, 92] [] (by kernel_rfl) rfl ?_
          · intro ac W hT hI hO
            have h89 : ac.tmps.getD 89 undef = .agg #[.int .i64 l0.kind, .int .i64 l0.n, .string l0.name, .slice l0.at_.1 l0.args.length l0.at_.2] := hI 89 (by simp)
            have h92 : ac.tmps.getD 92 undef = .agg #[.int .i64 l1.kind, .int .i64 l1.n, .string l1.name, .slice l1.at_.1 l1.args.length l1.at_.2] := hI 92 (by simp)
            show Brings Try.prog (fun v w' => Turned (fun _ => False) W w' ∧ v = .tuple #[.bool false, .int .i64 1]) _
            simp only [execOp, Act.eval, h89, h92]
            go_simp
            show Calls Try.prog 76 _ W _
            (with_reducible refine (HTE.out W hT).mono ?_)
            rintro e w' ⟨rfl, T'⟩
            exact ⟨_, rfl, T', rfl⟩
        case s7 =>
          refine fun hs hle => stepG_free [93] [] (by kernel_rfl) rfl ?_
          · intro ac W hT hI hO
            have h93 : ac.tmps.getD 93 undef = .tuple #[.bool false, .int .i64 1] := hI 93 (by simp)
            show Brings Try.prog (fun v w' => Turned (fun _ => False) W w' ∧ v = .tuple #[.bool false, .int .i64 1]) _
            simp only [execOp, Act.eval, h93]
            go_simp
            try exact ⟨Turned.refl _ _, rfl⟩
        case s8 =>
          refine fun hs hle => stepG_free [86] [] (by kernel_rfl) rfl ?_
          · intro ac W hT hI hO
            have h86 : ac.tmps.getD 86 undef = .tuple #[.bool false, .int .i64 1] := hI 86 (by simp)
            show Brings Try.prog (fun v w' => Turned (fun _ => False) W w' ∧ v = .bool false) _
            simp only [execOp, Act.eval, h86]
            go_simp
            try exact ⟨Turned.refl _ _, rfl⟩
        case s9 =>
          refine fun hs hle => stepG_free [86] [] (by kernel_rfl) rfl ?_
          · intro ac W hT hI hO
            have h86 : ac.tmps.getD 86 undef = .tuple #[.bool false, .int .i64 1] := hI 86 (by simp)
            show Brings Try.prog (fun v w' => Turned (fun _ => False) W w' ∧ v = .int .i64 1) _
            simp only [execOp, Act.eval, h86]
            go_simp
            try exact ⟨Turned.refl _ _, rfl⟩
        case s10 =>
          refine fun hs hle => stepG_free [94] [] (by kernel_rfl) rfl ?_
          · intro ac W hT hI hO
            have h94 : ac.tmps.getD 94 undef = .bool false := hI 94 (by simp)
            show Brings Try.prog (fun v w' => Turned (fun _ => False) W w' ∧ v = .bool false) _
            simp only [execOp, Act.eval, h94]
            go_simp
            try exact ⟨Turned.refl _ _, rfl⟩
        case s11 =>
          refine fun hs hle => stepG_free [95] [] (by kernel_rfl) rfl ?_
          · intro ac W hT hI hO
            have h95 : ac.tmps.getD 95 undef = .int .i64 1 := hI 95 (by simp)
            show Brings Try.prog (fun v w' => Turned (fun _ => False) W w' ∧ v = .int .i64 1) _
            simp only [execOp, Act.eval, h95]
            go_simp
            try exact ⟨Turned.refl _ _, rfl⟩
      case hQ =>
        intro hs vq w9 hlen T9 hV
        have q5 : vq 5 = .bool false := hV 5 (by simp)
        have q6 : vq 6 = .int .i64 1 := hV 6 (by simp)
        simp only [List.foldl_cons, List.foldl_nil, List.setIfInBounds_toArray, List.set_cons_zero, List.set_cons_succ, q5, q6]
        clear hV hs hlen q5 q6
        have htl := fun W (h : Turned (fun _ => False) w9 W) => testLe76 (Tm.cmp_refl l0) (HI0.out.turned0 (T9.trans h)) (HI0.out.turned0 (T9.trans h)) HS0.out HS0.out HG0.out HG0.out
        rw [LT.val_eq l0] at htl
        have HTL := Lib.hid htl
        clear htl
        go_wp2_with fail
        refine wp_region_hs [97, 98, 99, 100, 101, 102, 103, 96, 104, 105, 7, 8] [] [0, 0, 0, 0, 0, 0, 0, 0, 0, 0, 0, 0] [] (fun d v => (match d with | 97 => v = .slice (some ⟨g, 0, none⟩) 12 12 | 98 => v = .pointer (some ⟨g, 0, none⟩) | 99 => v = .agg #[.int .i64 l0.kind, .int .i64 l0.n, .string l0.name, .slice l0.at_.1 l0.args.length l0.at_.2] | 100 => v = .slice (some ⟨g, 0, none⟩) 12 12 | 101 => v = .pointer (some ⟨g, 0, none⟩) | 102 => v = .agg #[.int .i64 l0.kind, .int .i64 l0.n, .string l0.name, .slice l0.at_.1 l0.args.length l0.at_.2] | 103 => v = .tuple #[.bool true, .int .i64 0] | 96 => v = .tuple #[.bool true, .int .i64 0] | 104 => v = .bool true | 105 => v = .int .i64 0 | 7 => v = .bool true | 8 => v = .int .i64 0 | _ => True : Prop)) (fun _ W => Turned (fun _ => False) w9 W) (by kernel_rfl) rfl (by kernel_rfl) (by kernel_rfl) (by kernel_rfl) (by kernel_rfl) (fun _ h => h) (fun _ _ _ h ht => h.trans ht) ?hs ?hQ
        case hs =>
          refine ⟨?s0, ?s1, ?s2, ?s3, ?s4, ?s5, ?s6, ?s7, ?s8, ?s9, ?s10, ?s11, trivial⟩
          case s0 =>
            refine fun hs hle => stepG_free [] [1] (by kernel_rfl) rfl ?_
            · intro ac W hT hI hO
              have h1 : ac.tmps.getD 1 undef = .slice (some ⟨g, 0, none⟩) 12 12 := hO 1 (by simp)
              show Brings Try.prog (fun v w' => Turned (fun _ => False) W w' ∧ v = .slice (some ⟨g, 0, none⟩) 12 12) _
              simp only [execOp, Act.eval, h1]
              go_simp
              try exact ⟨Turned.refl _ _, rfl⟩
          case s1 =>
            refine fun hs hle => stepG_free [97] [] (by kernel_rfl) rfl ?_
            · intro ac W hT hI hO
              have h97 : ac.tmps.getD 97 undef = .slice (some ⟨g, 0, none⟩) 12 12 := hI 97 (by simp)
              show Brings Try.prog (fun v w' => Turned (fun _ => False) W w' ∧ v = .pointer (some ⟨g, 0, none⟩)) _
              simp only [execOp, Act.eval, h97]
              go_simp
              try rw [if_pos (by omega)]
              try exact ⟨Turned.refl _ _, rfl⟩
          case s2 =>
            refine fun hs hle => stepG_free [98] [] (by kernel_rfl) rfl ?_
            · intro ac W hT hI hO
              have h98 : ac.tmps.getD 98 undef = .pointer (some ⟨g, 0, none⟩) := hI 98 (by simp)
              show Brings Try.prog (fun v w' => Turned (fun _ => False) W w' ∧ v = .agg #[.int .i64 l0.kind, .int .i64 l0.n, .string l0.name, .slice l0.at_.1 l0.args.length l0.at_.2]) _
              obtain ⟨p0, p1, p2, p3⟩ := HP.out; have p0 := (T9.trans hT).cell0 p0; have p1 := (T9.trans hT).cell0 p1; have p2 := (T9.trans hT).cell0 p2; have p3 := (T9.trans hT).cell0 p3
              simp only [execOp, Act.eval, h98]
              go_simp
              exact ⟨Turned.refl _ _, rfl⟩
          case s3 =>
            refine fun hs hle => stepG_free [] [1] (by kernel_rfl) rfl ?_
            · intro ac W hT hI hO
              have h1 : ac.tmps.getD 1 undef = .slice (some ⟨g, 0, none⟩) 12 12 := hO 1 (by simp)
              show Brings Try.prog (fun v w' => Turned (fun _ => False) W w' ∧ v = .slice (some ⟨g, 0, none⟩) 12 12) _
              simp only [execOp, Act.eval, h1]
              go_simp
              try exact ⟨Turned.refl _ _, rfl⟩
          case s4 =>
            refine fun hs hle => stepG_free [100] [] (by kernel_rfl) rfl ?_
            · intro ac W hT hI hO
              have h100 : ac.tmps.getD 100 undef = .slice (some ⟨g, 0, none⟩) 12 12 := hI 100 (by simp)
              show Brings Try.prog (fun v w' => Turned (fun _ => False) W w' ∧ v = .pointer (some ⟨g, 0, none⟩)) _
              simp only [execOp, Act.eval, h100]
              go_simp
              try rw [if_pos (by omega)]
              try exact ⟨Turned.refl _ _, rfl⟩
          case s5 =>
            refine fun hs hle => stepG_free [101] [] (by kernel_rfl) rfl ?_
            · intro ac W hT hI hO
              have h101 : ac.tmps.getD 101 undef = .pointer (some ⟨g, 0, none⟩) := hI 101 (by simp)
              show Brings Try.prog (fun v w' => Turned (fun _ => False) W w' ∧ v = .agg #[.int .i64 l0.kind, .int .i64 l0.n, .string l0.name, .slice l0.at_.1 l0.args.length l0.at_.2]) _
              obtain ⟨p0, p1, p2, p3⟩ := HP.out; have p0 := (T9.trans hT).cell0 p0; have p1 := (T9.trans hT).cell0 p1; have p2 := (T9.trans hT).cell0 p2; have p3 := (T9.trans hT).cell0 p3
              simp only [execOp, Act.eval, h101]
              go_simp
              exact ⟨Turned.refl _ _, rfl⟩
          case s6 =>
            refine fun hs hle => stepG_free [99, 102] [] (by kernel_rfl) rfl ?_
            · intro ac W hT hI hO
              have h99 : ac.tmps.getD 99 undef = .agg #[.int .i64 l0.kind, .int .i64 l0.n, .string l0.name, .slice l0.at_.1 l0.args.length l0.at_.2] := hI 99 (by simp)
              have h102 : ac.tmps.getD 102 undef = .agg #[.int .i64 l0.kind, .int .i64 l0.n, .string l0.name, .slice l0.at_.1 l0.args.length l0.at_.2] := hI 102 (by simp)
              show Brings Try.prog (fun v w' => Turned (fun _ => False) W w' ∧ v = .tuple #[.bool true, .int .i64 0]) _
              simp only [execOp, Act.eval, h99, h102]
              go_simp
              show Calls Try.prog 76 _ W _
              (with_reducible refine (HTL.out W hT).mono ?_)
              rintro e w' ⟨rfl, T'⟩
              exact ⟨_, rfl, T', rfl⟩
          case s7 =>
            refine fun hs hle => stepG_free [103] [] (by kernel_rfl) rfl ?_
            · intro ac W hT hI hO
              have h103 : ac.tmps.getD 103 undef = .tuple #[.bool true, .int .i64 0] := hI 103 (by simp)
              show Brings Try.prog (fun v w' => Turned (fun _ => False) W w' ∧ v = .tuple #[.bool true, .int .i64 0]) _
              simp only [execOp, Act.eval, h103]
              go_simp
              try exact ⟨Turned.refl _ _, rfl⟩
          case s8 =>
            refine fun hs hle => stepG_free [96] [] (by kernel_rfl) rfl ?_
            · intro ac W hT hI hO
              have h96 : ac.tmps.getD 96 undef = .tuple #[.bool true, .int .i64 0] := hI 96 (by simp)
              show Brings Try.prog (fun v w' => Turned (fun _ => False) W w' ∧ v = .bool true) _
              simp only [execOp, Act.eval, h96]
              go_simp
              try exact ⟨Turned.refl _ _, rfl⟩
          case s9 =>
            refine fun hs hle => stepG_free [96] [] (by kernel_rfl) rfl ?_
            · intro ac W hT hI hO
              have h96 : ac.tmps.getD 96 undef = .tuple #[.bool true, .int .i64 0] := hI 96 (by simp)
              show Brings Try.prog (fun v w' => Turned (fun _ => False) W w' ∧ v = .int .i64 0) _
              simp only [execOp, Act.eval, h96]
              go_simp
              try exact ⟨Turned.refl _ _, rfl⟩
          case s10 =>
            refine fun hs hle => stepG_free [104] [] (by kernel_rfl) rfl ?_
            · intro ac W hT hI hO
              have h104 : ac.tmps.getD 104 undef = .bool true := hI 104 (by simp)
              show Brings Try.prog (fun v w' => Turned (fun _ => False) W w' ∧ v = .bool true) _
              simp only [execOp, Act.eval, h104]
              go_simp
              try exact ⟨Turned.refl _ _, rfl⟩
          case s11 =>
            refine fun hs hle => stepG_free [105] [] (by kernel_rfl) rfl ?_
            · intro ac W hT hI hO
              have h105 : ac.tmps.getD 105 undef = .int .i64 0 := hI 105 (by simp)
              show Brings Try.prog (fun v w' => Turned (fun _ => False) W w' ∧ v = .int .i64 0) _
              simp only [execOp, Act.eval, h105]
              go_simp
              try exact ⟨Turned.refl _ _, rfl⟩
        case hQ =>
          intro hs vq w10 hlen T10 hV
          have q7 : vq 7 = .bool true := hV 7 (by simp)
          have q8 : vq 8 = .int .i64 0 := hV 8 (by simp)
          simp only [List.foldl_cons, List.foldl_nil, List.setIfInBounds_toArray, List.set_cons_zero, List.set_cons_succ, q7, q8]
          clear hV hs hlen q7 q8
          have TT := T9.trans T10
          have hcell : ∀ W, Turned (fun _ => False) w10 W → (W.cell? ⟨g, 0, none⟩ = some (.int .i64 l0.kind) ∧ W.cell? ⟨g, 1, none⟩ = some (.int .i64 l0.n) ∧ W.cell? ⟨g, 2, none⟩ = some (.string l0.name) ∧ W.cell? ⟨g, 3, none⟩ = some (.slice l0.at_.1 l0.args.length l0.at_.2)) ∧ (W.cell? ⟨g, 36, none⟩ = some (.int .i64 l9.kind) ∧ W.cell? ⟨g, 37, none⟩ = some (.int .i64 l9.n) ∧ W.cell? ⟨g, 38, none⟩ = some (.string l9.name) ∧ W.cell? ⟨g, 39, none⟩ = some (.slice l9.at_.1 l9.args.length l9.at_.2)) := fun W h => by
            obtain ⟨p0, p1, p2, p3⟩ := HP.out
            obtain ⟨_, m0, m1, m2, m3⟩ := HAT.out 9 l9 W HE9.out (Tr.trans (TT.trans h))
            exact ⟨⟨(TT.trans h).cell0 p0, (TT.trans h).cell0 p1, (TT.trans h).cell0 p2, (TT.trans h).cell0 p3⟩, m0, m1, m2, m3⟩
          have HCE := Lib.hid hcell
          obtain ⟨⟨p0, p1, p2, p3⟩, ⟨m0, m1, m2, m3⟩⟩ := hcell w10 (Turned.refl _ _)
          have hb76 := fun W => bad76 (p := fun _ => True) (a := leaf 5 0 ByteArray.empty) (b := l0) (w := W) (leafIn _ _ _ (i64_lit _ (by omega)) (i64_lit _ (by omega)) (by unfold maxLen; decide)) (leafSlim _ _ _) (by kernel_rfl)
          have hb68 := fun W => bad68 (p := fun _ => True) (a := leaf 5 0 ByteArray.empty) (b := l0) (w := W) (leafIn _ _ _ (i64_lit _ (by omega)) (i64_lit _ (by omega)) (by unfold maxLen; decide)) (leafSlim _ _ _) (by kernel_rfl)
          have hk9 := fun W (h : Turned (fun _ => False) w10 W) => key67 (HAT.out 9 l9 W HE9.out (Tr.trans (TT.trans h))).1
          rw [H9.out.1, H9.out.2.1, H9.out.2.2] at hk9
          rw [LT.val_eq l9] at hk9
          rw [LT.val_eq l0] at hb76 hb68
          replace hb76 : ∀ W, Calls Try.prog 76 #[.string ⟨#[61, 61]⟩, .agg #[.int .i64 5, .int .i64 0, .string ⟨#[]⟩, .slice none 0 0], .agg #[.int .i64 l0.kind, .int .i64 l0.n, .string l0.name, .slice l0.at_.1 l0.args.length l0.at_.2]] W fun e w' => e = .returned (.tuple #[.bool false, .int .i64 1]) ∧ Turned (fun _ => False) W w' := hb76
          replace hb68 : ∀ W, Calls Try.prog 68 #[.agg #[.int .i64 5, .int .i64 0, .string ⟨#[]⟩, .slice none 0 0], .agg #[.int .i64 l0.kind, .int .i64 l0.n, .string l0.name, .slice l0.at_.1 l0.args.length l0.at_.2]] W fun e w' => e = .returned (.int .i64 0) ∧ Turned (fun _ => False) W w' := hb68
          have HB76 := Lib.hid hb76
          have HB68 := Lib.hid hb68
          have HK9 := Lib.hid hk9
          clear hb76 hb68 hk9 hcell
          go_wp2_with (first
            | (go_at_call 76; refine (HB76.out _).mono ?_; rintro e w11 ⟨rfl, T11⟩; obtain ⟨⟨p0, p1, p2, p3⟩, ⟨m0, m1, m2, m3⟩⟩ := HCE.out _ T11)
            | (go_at_call 67; refine (HK9.out _ T11).mono ?_; rintro e w12 ⟨rfl, T12⟩; obtain ⟨⟨p0, p1, p2, p3⟩, ⟨m0, m1, m2, m3⟩⟩ := HCE.out _ (T11.trans T12))
            | (go_at_call 68; refine (HB68.out _).mono ?_; rintro e w13 ⟨rfl, T13⟩))
          all_goals
            go_ret
            first
              | exact ⟨rfl, HT0.out.trans (Tr.trans (TT.trans (T11.trans (T12.trans T13))))⟩
              | (exfalso; contradiction)
              | (trace_state; sorry)

end Go.Proofs.Ytoihjobdfjajfaa
