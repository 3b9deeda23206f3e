/- Test: the program's and the document's, one text for both. -/
import Derived.Test.YtoihjobdfjajfaaOS1
namespace Go.Proofs.Ytoihjobdfjajfaa
set_option linter.unusedVariables false
set_option linter.unusedSimpArgs false
open Go.RowKit
/-- What an operator tells. -/
def testV (op : ByteArray) (c : Int) : Bool × Int :=
  if op.toList = ([61, 61] : List UInt8) then ((c == 0), 0)
  else if op.toList = ([92, 61, 61] : List UInt8) then ((c != 0), 0)
  else if op.toList = ([64, 60] : List UInt8) then (decide (c < 0), 0)
  else if op.toList = ([64, 62] : List UInt8) then (decide (0 < c), 0)
  else if op.toList = ([64, 61, 60] : List UInt8) then (decide (c ≤ 0), 0)
  else if op.toList = ([64, 62, 61] : List UInt8) then (decide (0 ≤ c), 0)
  else (false, 1)
def testR {α β : Type} (op : ByteArray) (a : Tm α) (b : Tm β) : Bool × Int := if goodB a = true ∧ goodB b = true then testV op (Tm.cmp a b) else (false, 1)
theorem lit_ne {op : ByteArray} {l : List UInt8} (h : ¬ op.toList = l) : (op.toList == l) = false := by rw [beq_eq_false_iff_ne]; exact h
theorem lit_eq {op : ByteArray} {l : List UInt8} (h : op.toList = l) : (op.toList == l) = true := by rw [beq_iff_eq]; exact h
set_option maxRecDepth 100000 in
set_option maxHeartbeats 6400000 in
theorem test76 {p : Nat → Prop} {a b : LT} {w : World} (op : ByteArray) (ha : a.In p w) (hb : b.In p w) (sa : slim a) (sb : slim b) :
    Calls Try.prog 76 #[.string op, a.val, b.val] w fun e w' => e = .returned (.tuple #[.bool (testR op a b).1, .int .i64 (testR op a b).2]) ∧ Turned (fun _ => False) w w' := by
  obtain ⟨b1, hb1⟩ : ∃ bx : Obj, bx = .cells #[.int .i64 a.kind, .int .i64 a.n, .string a.name, .slice a.at_.1 a.args.length a.at_.2] 27 := ⟨_, rfl⟩
  obtain ⟨b2, hb2⟩ : ∃ bx : Obj, bx = .cells #[.int .i64 b.kind, .int .i64 b.n, .string b.name, .slice b.at_.1 b.args.length b.at_.2] 27 := ⟨_, rfl⟩
  have T1 := ((Turned.refl (fun _ => False) w).alloc b1).alloc b2
  have hc : ∀ W, Turned (fun _ => False) ((w.alloc b1).alloc b2) W → W.heap[w.heap.size]? = some b1 ∧ W.heap[w.heap.size + 1]? = some b2 := by
    intro W h
    exact ⟨(h.block _ (by simp; omega) (fun f => f)).trans (heap_alloc2_old w b1 b2), (h.block _ (by simp) (fun f => f)).trans (heap_alloc2_new w b1 b2)⟩
  have g1 := fun W (h : Turned (fun _ => False) ((w.alloc b1).alloc b2) W) => good38 (ha.turned0 (T1.trans h)) sa
  have g2 := fun W (h : Turned (fun _ => False) ((w.alloc b1).alloc b2) W) => good38 (hb.turned0 (T1.trans h)) sb
  have g3 := fun (ga : goodB a = true) (gb : goodB b = true) W (h : Turned (fun _ => False) ((w.alloc b1).alloc b2) W) => compare135 (p := p) a.depth a b W (Nat.le_refl _) (ha.turned0 (T1.trans h)) (hb.turned0 (T1.trans h))
  rw [LT.val_eq a] at g1 g3 ⊢
  rw [LT.val_eq b] at g2 g3 ⊢
  subst hb1 hb2
  have HC := Lib.hid hc
  have HT := Lib.hid T1
  clear hc T1 ha hb sa sb
  cases ga : goodB a with
  | false =>
    have HR : Hid (testR op a b = (false, 1)) := by show _ = _; unfold testR; rw [if_neg (by rw [ga]; simp)]
    rw [ga] at g1
    have G1 := Lib.hid g1
    clear g1 g2 g3 ga
    go_enter Try.func76, Try.ntmps76
    go_wp2_with (go_at_call 38; refine (G1.out _ (Turned.refl _ _)).mono ?_; rintro e w2 ⟨rfl, T2⟩)
    go_ret2
    exact ⟨by rw [HR.out]; rfl, HT.out.trans T2⟩
  | true =>
  rw [ga] at g1
  have G1 := Lib.hid g1
  clear g1
  cases gb : goodB b with
  | false =>
    have HR : Hid (testR op a b = (false, 1)) := by show _ = _; unfold testR; rw [if_neg (by rw [gb]; simp)]
    rw [gb] at g2
    have G2 := Lib.hid g2
    clear g2 g3 ga gb
    go_enter Try.func76, Try.ntmps76
    go_wp2_with (first
      | (go_at_call 38; (with_reducible refine (G1.out _ (Turned.refl _ _)).mono ?_); rintro e w2 ⟨rfl, T2⟩; obtain ⟨h1, h2⟩ := HC.out _ T2; obtain ⟨d0, d1, d2, d3, _⟩ := cells4 h2; obtain ⟨f0, f1, f2, f3, _⟩ := cells4 h1; clear h1 h2)
      | (go_at_call 38; have := T2; (with_reducible refine (G2.out _ T2).mono ?_); rintro e w3 ⟨rfl, T3⟩; obtain ⟨h1, h2⟩ := HC.out _ (T2.trans T3); obtain ⟨d0, d1, d2, d3, _⟩ := cells4 h2; obtain ⟨f0, f1, f2, f3, _⟩ := cells4 h1; clear h1 h2)
      | (go_at_call 135; refine (G3.out _ (T2.trans T3)).mono ?_; rintro e w4 ⟨rfl, T4⟩))
    go_ret2
    exact ⟨by rw [HR.out]; rfl, HT.out.trans (T2.trans T3)⟩
  | true =>
  rw [gb] at g2
  have G2 := Lib.hid g2
  have g4 := g3 ga gb
  have HV : Hid (testR op a b = testV op (Tm.cmp a b)) := by show _ = _; unfold testR; rw [if_pos ⟨ga, gb⟩]
  obtain ⟨c, hcc⟩ : ∃ c, c = Tm.cmp a b := ⟨_, rfl⟩
  rw [← hcc] at g4 HV
  have G3 := Lib.hid g4
  clear g2 g3 g4 ga gb hcc
  by_cases h0 : op.toList = ([61, 61] : List UInt8)
  · have t0 := lit_eq h0
    have HR : Hid (testR op a b = ((c == 0), 0)) := by show _ = _; rw [HV.out]; unfold testV; rw [if_pos h0]
    go_enter Try.func76, Try.ntmps76
    go_wp2_with (first
      | (go_at_call 38; (with_reducible refine (G1.out _ (Turned.refl _ _)).mono ?_); rintro e w2 ⟨rfl, T2⟩; obtain ⟨h1, h2⟩ := HC.out _ T2; obtain ⟨d0, d1, d2, d3, _⟩ := cells4 h2; obtain ⟨f0, f1, f2, f3, _⟩ := cells4 h1; clear h1 h2)
      | (go_at_call 38; have := T2; (with_reducible refine (G2.out _ T2).mono ?_); rintro e w3 ⟨rfl, T3⟩; obtain ⟨h1, h2⟩ := HC.out _ (T2.trans T3); obtain ⟨d0, d1, d2, d3, _⟩ := cells4 h2; obtain ⟨f0, f1, f2, f3, _⟩ := cells4 h1; clear h1 h2)
      | (go_at_call 135; refine (G3.out _ (T2.trans T3)).mono ?_; rintro e w4 ⟨rfl, T4⟩))
    all_goals try (exfalso; contradiction)
    go_ret2
    exact ⟨by rw [HR.out]; rfl, HT.out.trans (T2.trans (T3.trans T4))⟩
  have t0 := lit_ne h0
  by_cases h1 : op.toList = ([92, 61, 61] : List UInt8)
  · have t1 := lit_eq h1
    have HR : Hid (testR op a b = ((c != 0), 0)) := by show _ = _; rw [HV.out]; unfold testV; rw [if_neg h0, if_pos h1]
    go_enter Try.func76, Try.ntmps76
    go_wp2_with (first
      | (go_at_call 38; (with_reducible refine (G1.out _ (Turned.refl _ _)).mono ?_); rintro e w2 ⟨rfl, T2⟩; obtain ⟨h1, h2⟩ := HC.out _ T2; obtain ⟨d0, d1, d2, d3, _⟩ := cells4 h2; obtain ⟨f0, f1, f2, f3, _⟩ := cells4 h1; clear h1 h2)
      | (go_at_call 38; have := T2; (with_reducible refine (G2.out _ T2).mono ?_); rintro e w3 ⟨rfl, T3⟩; obtain ⟨h1, h2⟩ := HC.out _ (T2.trans T3); obtain ⟨d0, d1, d2, d3, _⟩ := cells4 h2; obtain ⟨f0, f1, f2, f3, _⟩ := cells4 h1; clear h1 h2)
      | (go_at_call 135; refine (G3.out _ (T2.trans T3)).mono ?_; rintro e w4 ⟨rfl, T4⟩))
    all_goals try (exfalso; contradiction)
    go_ret2
    exact ⟨by rw [HR.out]; rfl, HT.out.trans (T2.trans (T3.trans T4))⟩
  have t1 := lit_ne h1
  by_cases h2 : op.toList = ([64, 60] : List UInt8)
  · have t2 := lit_eq h2
    have HR : Hid (testR op a b = (decide (c < 0), 0)) := by show _ = _; rw [HV.out]; unfold testV; rw [if_neg h0, if_neg h1, if_pos h2]
    go_enter Try.func76, Try.ntmps76
    go_wp2_with (first
      | (go_at_call 38; (with_reducible refine (G1.out _ (Turned.refl _ _)).mono ?_); rintro e w2 ⟨rfl, T2⟩; obtain ⟨h1, h2⟩ := HC.out _ T2; obtain ⟨d0, d1, d2, d3, _⟩ := cells4 h2; obtain ⟨f0, f1, f2, f3, _⟩ := cells4 h1; clear h1 h2)
      | (go_at_call 38; have := T2; (with_reducible refine (G2.out _ T2).mono ?_); rintro e w3 ⟨rfl, T3⟩; obtain ⟨h1, h2⟩ := HC.out _ (T2.trans T3); obtain ⟨d0, d1, d2, d3, _⟩ := cells4 h2; obtain ⟨f0, f1, f2, f3, _⟩ := cells4 h1; clear h1 h2)
      | (go_at_call 135; refine (G3.out _ (T2.trans T3)).mono ?_; rintro e w4 ⟨rfl, T4⟩))
    all_goals try (exfalso; contradiction)
    go_ret2
    exact ⟨by rw [HR.out]; rfl, HT.out.trans (T2.trans (T3.trans T4))⟩
  have t2 := lit_ne h2
  by_cases h3 : op.toList = ([64, 62] : List UInt8)
  · have t3 := lit_eq h3
    have HR : Hid (testR op a b = (decide (0 < c), 0)) := by show _ = _; rw [HV.out]; unfold testV; rw [if_neg h0, if_neg h1, if_neg h2, if_pos h3]
    go_enter Try.func76, Try.ntmps76
    go_wp2_with (first
      | (go_at_call 38; (with_reducible refine (G1.out _ (Turned.refl _ _)).mono ?_); rintro e w2 ⟨rfl, T2⟩; obtain ⟨h1, h2⟩ := HC.out _ T2; obtain ⟨d0, d1, d2, d3, _⟩ := cells4 h2; obtain ⟨f0, f1, f2, f3, _⟩ := cells4 h1; clear h1 h2)
      | (go_at_call 38; have := T2; (with_reducible refine (G2.out _ T2).mono ?_); rintro e w3 ⟨rfl, T3⟩; obtain ⟨h1, h2⟩ := HC.out _ (T2.trans T3); obtain ⟨d0, d1, d2, d3, _⟩ := cells4 h2; obtain ⟨f0, f1, f2, f3, _⟩ := cells4 h1; clear h1 h2)
      | (go_at_call 135; refine (G3.out _ (T2.trans T3)).mono ?_; rintro e w4 ⟨rfl, T4⟩))
    all_goals try (exfalso; contradiction)
    go_ret2
    exact ⟨by rw [HR.out]; rfl, HT.out.trans (T2.trans (T3.trans T4))⟩
  have t3 := lit_ne h3
  by_cases h4 : op.toList = ([64, 61, 60] : List UInt8)
  · have t4 := lit_eq h4
    have HR : Hid (testR op a b = (decide (c ≤ 0), 0)) := by show _ = _; rw [HV.out]; unfold testV; rw [if_neg h0, if_neg h1, if_neg h2, if_neg h3, if_pos h4]
    go_enter Try.func76, Try.ntmps76
    go_wp2_with (first
      | (go_at_call 38; (with_reducible refine (G1.out _ (Turned.refl _ _)).mono ?_); rintro e w2 ⟨rfl, T2⟩; obtain ⟨h1, h2⟩ := HC.out _ T2; obtain ⟨d0, d1, d2, d3, _⟩ := cells4 h2; obtain ⟨f0, f1, f2, f3, _⟩ := cells4 h1; clear h1 h2)
      | (go_at_call 38; have := T2; (with_reducible refine (G2.out _ T2).mono ?_); rintro e w3 ⟨rfl, T3⟩; obtain ⟨h1, h2⟩ := HC.out _ (T2.trans T3); obtain ⟨d0, d1, d2, d3, _⟩ := cells4 h2; obtain ⟨f0, f1, f2, f3, _⟩ := cells4 h1; clear h1 h2)
      | (go_at_call 135; refine (G3.out _ (T2.trans T3)).mono ?_; rintro e w4 ⟨rfl, T4⟩))
    all_goals try (exfalso; contradiction)
    go_ret2
    exact ⟨by rw [HR.out]; rfl, HT.out.trans (T2.trans (T3.trans T4))⟩
  have t4 := lit_ne h4
  by_cases h5 : op.toList = ([64, 62, 61] : List UInt8)
  · have t5 := lit_eq h5
    have HR : Hid (testR op a b = (decide (0 ≤ c), 0)) := by show _ = _; rw [HV.out]; unfold testV; rw [if_neg h0, if_neg h1, if_neg h2, if_neg h3, if_neg h4, if_pos h5]
    go_enter Try.func76, Try.ntmps76
    go_wp2_with (first
      | (go_at_call 38; (with_reducible refine (G1.out _ (Turned.refl _ _)).mono ?_); rintro e w2 ⟨rfl, T2⟩; obtain ⟨h1, h2⟩ := HC.out _ T2; obtain ⟨d0, d1, d2, d3, _⟩ := cells4 h2; obtain ⟨f0, f1, f2, f3, _⟩ := cells4 h1; clear h1 h2)
      | (go_at_call 38; have := T2; (with_reducible refine (G2.out _ T2).mono ?_); rintro e w3 ⟨rfl, T3⟩; obtain ⟨h1, h2⟩ := HC.out _ (T2.trans T3); obtain ⟨d0, d1, d2, d3, _⟩ := cells4 h2; obtain ⟨f0, f1, f2, f3, _⟩ := cells4 h1; clear h1 h2)
      | (go_at_call 135; refine (G3.out _ (T2.trans T3)).mono ?_; rintro e w4 ⟨rfl, T4⟩))
    all_goals try (exfalso; contradiction)
    go_ret2
    exact ⟨by rw [HR.out]; rfl, HT.out.trans (T2.trans (T3.trans T4))⟩
  have t5 := lit_ne h5
  have HR : Hid (testR op a b = (false, 1)) := by show _ = _; rw [HV.out]; unfold testV; rw [if_neg h0, if_neg h1, if_neg h2, if_neg h3, if_neg h4, if_neg h5]
  go_enter Try.func76, Try.ntmps76
  go_wp2_with (first
    | (go_at_call 38; (with_reducible refine (G1.out _ (Turned.refl _ _)).mono ?_); rintro e w2 ⟨rfl, T2⟩; obtain ⟨h1, h2⟩ := HC.out _ T2; obtain ⟨d0, d1, d2, d3, _⟩ := cells4 h2; obtain ⟨f0, f1, f2, f3, _⟩ := cells4 h1; clear h1 h2)
    | (go_at_call 38; have := T2; (with_reducible refine (G2.out _ T2).mono ?_); rintro e w3 ⟨rfl, T3⟩; obtain ⟨h1, h2⟩ := HC.out _ (T2.trans T3); obtain ⟨d0, d1, d2, d3, _⟩ := cells4 h2; obtain ⟨f0, f1, f2, f3, _⟩ := cells4 h1; clear h1 h2)
    | (go_at_call 135; refine (G3.out _ (T2.trans T3)).mono ?_; rintro e w4 ⟨rfl, T4⟩))
  all_goals try (exfalso; contradiction)
  go_ret2
  exact ⟨by rw [HR.out]; rfl, HT.out.trans (T2.trans (T3.trans T4))⟩
set_option maxRecDepth 100000 in
set_option maxHeartbeats 6400000 in
theorem test77 {p : Nat → Prop} {a b : LT} {w : World} (op : ByteArray) (ha : a.In p w) (hb : b.In p w) (sa : slim a) (sb : slim b) :
    Calls Try.prog 77 #[.string op, a.val, b.val] w fun e w' => e = .returned (.tuple #[.bool (testR op a b).1, .int .i64 (testR op a b).2]) ∧ Turned (fun _ => False) w w' := by
  obtain ⟨b1, hb1⟩ : ∃ bx : Obj, bx = .cells #[.int .i64 a.kind, .int .i64 a.n, .string a.name, .slice a.at_.1 a.args.length a.at_.2] 41 := ⟨_, rfl⟩
  obtain ⟨b2, hb2⟩ : ∃ bx : Obj, bx = .cells #[.int .i64 b.kind, .int .i64 b.n, .string b.name, .slice b.at_.1 b.args.length b.at_.2] 41 := ⟨_, rfl⟩
  have T1 := ((Turned.refl (fun _ => False) w).alloc b1).alloc b2
  have hc : ∀ W, Turned (fun _ => False) ((w.alloc b1).alloc b2) W → W.heap[w.heap.size]? = some b1 ∧ W.heap[w.heap.size + 1]? = some b2 := by
    intro W h
    exact ⟨(h.block _ (by simp; omega) (fun f => f)).trans (heap_alloc2_old w b1 b2), (h.block _ (by simp) (fun f => f)).trans (heap_alloc2_new w b1 b2)⟩
  have g1 := fun W (h : Turned (fun _ => False) ((w.alloc b1).alloc b2) W) => rGood45 (ha.turned0 (T1.trans h))
  have g2 := fun W (h : Turned (fun _ => False) ((w.alloc b1).alloc b2) W) => rGood45 (hb.turned0 (T1.trans h))
  have g3 := fun (ga : goodB a = true) (gb : goodB b = true) W (h : Turned (fun _ => False) ((w.alloc b1).alloc b2) W) => rCmp75 (p := p) a.depth a b W (Nat.le_refl _) (ha.turned0 (T1.trans h)) (hb.turned0 (T1.trans h)) ga gb
  rw [LT.val_eq a] at g1 g3 ⊢
  rw [LT.val_eq b] at g2 g3 ⊢
  subst hb1 hb2
  have HC := Lib.hid hc
  have HT := Lib.hid T1
  clear hc T1 ha hb sa sb
  cases ga : goodB a with
  | false =>
    have HR : Hid (testR op a b = (false, 1)) := by show _ = _; unfold testR; rw [if_neg (by rw [ga]; simp)]
    rw [ga] at g1
    have G1 := Lib.hid g1
    clear g1 g2 g3 ga
    go_enter Try.func77, Try.ntmps77
    go_wp2_with (go_at_call 45; refine (G1.out _ (Turned.refl _ _)).mono ?_; rintro e w2 ⟨rfl, T2⟩)
    go_ret2
    exact ⟨by rw [HR.out]; rfl, HT.out.trans T2⟩
  | true =>
  rw [ga] at g1
  have G1 := Lib.hid g1
  clear g1
  cases gb : goodB b with
  | false =>
    have HR : Hid (testR op a b = (false, 1)) := by show _ = _; unfold testR; rw [if_neg (by rw [gb]; simp)]
    rw [gb] at g2
    have G2 := Lib.hid g2
    clear g2 g3 ga gb
    go_enter Try.func77, Try.ntmps77
    go_wp2_with (first
      | (go_at_call 45; (with_reducible refine (G1.out _ (Turned.refl _ _)).mono ?_); rintro e w2 ⟨rfl, T2⟩; obtain ⟨h1, h2⟩ := HC.out _ T2; obtain ⟨d0, d1, d2, d3, _⟩ := cells4 h2; obtain ⟨f0, f1, f2, f3, _⟩ := cells4 h1; clear h1 h2)
      | (go_at_call 45; have := T2; (with_reducible refine (G2.out _ T2).mono ?_); rintro e w3 ⟨rfl, T3⟩; obtain ⟨h1, h2⟩ := HC.out _ (T2.trans T3); obtain ⟨d0, d1, d2, d3, _⟩ := cells4 h2; obtain ⟨f0, f1, f2, f3, _⟩ := cells4 h1; clear h1 h2)
      | (go_at_call 75; refine (G3.out _ (T2.trans T3)).mono ?_; rintro e w4 ⟨rfl, T4⟩))
    go_ret2
    exact ⟨by rw [HR.out]; rfl, HT.out.trans (T2.trans T3)⟩
  | true =>
  rw [gb] at g2
  have G2 := Lib.hid g2
  have g4 := g3 ga gb
  have HV : Hid (testR op a b = testV op (Tm.cmp a b)) := by show _ = _; unfold testR; rw [if_pos ⟨ga, gb⟩]
  obtain ⟨c, hcc⟩ : ∃ c, c = Tm.cmp a b := ⟨_, rfl⟩
  rw [← hcc] at g4 HV
  have G3 := Lib.hid g4
  clear g2 g3 g4 ga gb hcc
  by_cases h0 : op.toList = ([61, 61] : List UInt8)
  · have t0 := lit_eq h0
    have HR : Hid (testR op a b = ((c == 0), 0)) := by show _ = _; rw [HV.out]; unfold testV; rw [if_pos h0]
    go_enter Try.func77, Try.ntmps77
    go_wp2_with (first
      | (go_at_call 45; (with_reducible refine (G1.out _ (Turned.refl _ _)).mono ?_); rintro e w2 ⟨rfl, T2⟩; obtain ⟨h1, h2⟩ := HC.out _ T2; obtain ⟨d0, d1, d2, d3, _⟩ := cells4 h2; obtain ⟨f0, f1, f2, f3, _⟩ := cells4 h1; clear h1 h2)
      | (go_at_call 45; have := T2; (with_reducible refine (G2.out _ T2).mono ?_); rintro e w3 ⟨rfl, T3⟩; obtain ⟨h1, h2⟩ := HC.out _ (T2.trans T3); obtain ⟨d0, d1, d2, d3, _⟩ := cells4 h2; obtain ⟨f0, f1, f2, f3, _⟩ := cells4 h1; clear h1 h2)
      | (go_at_call 75; refine (G3.out _ (T2.trans T3)).mono ?_; rintro e w4 ⟨rfl, T4⟩))
    all_goals try (exfalso; contradiction)
    go_ret2
    exact ⟨by rw [HR.out]; rfl, HT.out.trans (T2.trans (T3.trans T4))⟩
  have t0 := lit_ne h0
  by_cases h1 : op.toList = ([92, 61, 61] : List UInt8)
  · have t1 := lit_eq h1
    have HR : Hid (testR op a b = ((c != 0), 0)) := by show _ = _; rw [HV.out]; unfold testV; rw [if_neg h0, if_pos h1]
    go_enter Try.func77, Try.ntmps77
    go_wp2_with (first
      | (go_at_call 45; (with_reducible refine (G1.out _ (Turned.refl _ _)).mono ?_); rintro e w2 ⟨rfl, T2⟩; obtain ⟨h1, h2⟩ := HC.out _ T2; obtain ⟨d0, d1, d2, d3, _⟩ := cells4 h2; obtain ⟨f0, f1, f2, f3, _⟩ := cells4 h1; clear h1 h2)
      | (go_at_call 45; have := T2; (with_reducible refine (G2.out _ T2).mono ?_); rintro e w3 ⟨rfl, T3⟩; obtain ⟨h1, h2⟩ := HC.out _ (T2.trans T3); obtain ⟨d0, d1, d2, d3, _⟩ := cells4 h2; obtain ⟨f0, f1, f2, f3, _⟩ := cells4 h1; clear h1 h2)
      | (go_at_call 75; refine (G3.out _ (T2.trans T3)).mono ?_; rintro e w4 ⟨rfl, T4⟩))
    all_goals try (exfalso; contradiction)
    go_ret2
    exact ⟨by rw [HR.out]; rfl, HT.out.trans (T2.trans (T3.trans T4))⟩
  have t1 := lit_ne h1
  by_cases h2 : op.toList = ([64, 60] : List UInt8)
  · have t2 := lit_eq h2
    have HR : Hid (testR op a b = (decide (c < 0), 0)) := by show _ = _; rw [HV.out]; unfold testV; rw [if_neg h0, if_neg h1, if_pos h2]
    go_enter Try.func77, Try.ntmps77
    go_wp2_with (first
      | (go_at_call 45; (with_reducible refine (G1.out _ (Turned.refl _ _)).mono ?_); rintro e w2 ⟨rfl, T2⟩; obtain ⟨h1, h2⟩ := HC.out _ T2; obtain ⟨d0, d1, d2, d3, _⟩ := cells4 h2; obtain ⟨f0, f1, f2, f3, _⟩ := cells4 h1; clear h1 h2)
      | (go_at_call 45; have := T2; (with_reducible refine (G2.out _ T2).mono ?_); rintro e w3 ⟨rfl, T3⟩; obtain ⟨h1, h2⟩ := HC.out _ (T2.trans T3); obtain ⟨d0, d1, d2, d3, _⟩ := cells4 h2; obtain ⟨f0, f1, f2, f3, _⟩ := cells4 h1; clear h1 h2)
      | (go_at_call 75; refine (G3.out _ (T2.trans T3)).mono ?_; rintro e w4 ⟨rfl, T4⟩))
    all_goals try (exfalso; contradiction)
    go_ret2
    exact ⟨by rw [HR.out]; rfl, HT.out.trans (T2.trans (T3.trans T4))⟩
  have t2 := lit_ne h2
  by_cases h3 : op.toList = ([64, 62] : List UInt8)
  · have t3 := lit_eq h3
    have HR : Hid (testR op a b = (decide (0 < c), 0)) := by show _ = _; rw [HV.out]; unfold testV; rw [if_neg h0, if_neg h1, if_neg h2, if_pos h3]
    go_enter Try.func77, Try.ntmps77
    go_wp2_with (first
      | (go_at_call 45; (with_reducible refine (G1.out _ (Turned.refl _ _)).mono ?_); rintro e w2 ⟨rfl, T2⟩; obtain ⟨h1, h2⟩ := HC.out _ T2; obtain ⟨d0, d1, d2, d3, _⟩ := cells4 h2; obtain ⟨f0, f1, f2, f3, _⟩ := cells4 h1; clear h1 h2)
      | (go_at_call 45; have := T2; (with_reducible refine (G2.out _ T2).mono ?_); rintro e w3 ⟨rfl, T3⟩; obtain ⟨h1, h2⟩ := HC.out _ (T2.trans T3); obtain ⟨d0, d1, d2, d3, _⟩ := cells4 h2; obtain ⟨f0, f1, f2, f3, _⟩ := cells4 h1; clear h1 h2)
      | (go_at_call 75; refine (G3.out _ (T2.trans T3)).mono ?_; rintro e w4 ⟨rfl, T4⟩))
    all_goals try (exfalso; contradiction)
    go_ret2
    exact ⟨by rw [HR.out]; rfl, HT.out.trans (T2.trans (T3.trans T4))⟩
  have t3 := lit_ne h3
  by_cases h4 : op.toList = ([64, 61, 60] : List UInt8)
  · have t4 := lit_eq h4
    have HR : Hid (testR op a b = (decide (c ≤ 0), 0)) := by show _ = _; rw [HV.out]; unfold testV; rw [if_neg h0, if_neg h1, if_neg h2, if_neg h3, if_pos h4]
    go_enter Try.func77, Try.ntmps77
    go_wp2_with (first
      | (go_at_call 45; (with_reducible refine (G1.out _ (Turned.refl _ _)).mono ?_); rintro e w2 ⟨rfl, T2⟩; obtain ⟨h1, h2⟩ := HC.out _ T2; obtain ⟨d0, d1, d2, d3, _⟩ := cells4 h2; obtain ⟨f0, f1, f2, f3, _⟩ := cells4 h1; clear h1 h2)
      | (go_at_call 45; have := T2; (with_reducible refine (G2.out _ T2).mono ?_); rintro e w3 ⟨rfl, T3⟩; obtain ⟨h1, h2⟩ := HC.out _ (T2.trans T3); obtain ⟨d0, d1, d2, d3, _⟩ := cells4 h2; obtain ⟨f0, f1, f2, f3, _⟩ := cells4 h1; clear h1 h2)
      | (go_at_call 75; refine (G3.out _ (T2.trans T3)).mono ?_; rintro e w4 ⟨rfl, T4⟩))
    all_goals try (exfalso; contradiction)
    go_ret2
    exact ⟨by rw [HR.out]; rfl, HT.out.trans (T2.trans (T3.trans T4))⟩
  have t4 := lit_ne h4
  by_cases h5 : op.toList = ([64, 62, 61] : List UInt8)
  · have t5 := lit_eq h5
    have HR : Hid (testR op a b = (decide (0 ≤ c), 0)) := by show _ = _; rw [HV.out]; unfold testV; rw [if_neg h0, if_neg h1, if_neg h2, if_neg h3, if_neg h4, if_pos h5]
    go_enter Try.func77, Try.ntmps77
    go_wp2_with (first
      | (go_at_call 45; (with_reducible refine (G1.out _ (Turned.refl _ _)).mono ?_); rintro e w2 ⟨rfl, T2⟩; obtain ⟨h1, h2⟩ := HC.out _ T2; obtain ⟨d0, d1, d2, d3, _⟩ := cells4 h2; obtain ⟨f0, f1, f2, f3, _⟩ := cells4 h1; clear h1 h2)
      | (go_at_call 45; have := T2; (with_reducible refine (G2.out _ T2).mono ?_); rintro e w3 ⟨rfl, T3⟩; obtain ⟨h1, h2⟩ := HC.out _ (T2.trans T3); obtain ⟨d0, d1, d2, d3, _⟩ := cells4 h2; obtain ⟨f0, f1, f2, f3, _⟩ := cells4 h1; clear h1 h2)
      | (go_at_call 75; refine (G3.out _ (T2.trans T3)).mono ?_; rintro e w4 ⟨rfl, T4⟩))
    all_goals try (exfalso; contradiction)
    go_ret2
    exact ⟨by rw [HR.out]; rfl, HT.out.trans (T2.trans (T3.trans T4))⟩
  have t5 := lit_ne h5
  have HR : Hid (testR op a b = (false, 1)) := by show _ = _; rw [HV.out]; unfold testV; rw [if_neg h0, if_neg h1, if_neg h2, if_neg h3, if_neg h4, if_neg h5]
  go_enter Try.func77, Try.ntmps77
  go_wp2_with (first
    | (go_at_call 45; (with_reducible refine (G1.out _ (Turned.refl _ _)).mono ?_); rintro e w2 ⟨rfl, T2⟩; obtain ⟨h1, h2⟩ := HC.out _ T2; obtain ⟨d0, d1, d2, d3, _⟩ := cells4 h2; obtain ⟨f0, f1, f2, f3, _⟩ := cells4 h1; clear h1 h2)
    | (go_at_call 45; have := T2; (with_reducible refine (G2.out _ T2).mono ?_); rintro e w3 ⟨rfl, T3⟩; obtain ⟨h1, h2⟩ := HC.out _ (T2.trans T3); obtain ⟨d0, d1, d2, d3, _⟩ := cells4 h2; obtain ⟨f0, f1, f2, f3, _⟩ := cells4 h1; clear h1 h2)
    | (go_at_call 75; refine (G3.out _ (T2.trans T3)).mono ?_; rintro e w4 ⟨rfl, T4⟩))
  all_goals try (exfalso; contradiction)
  go_ret2
  exact ⟨by rw [HR.out]; rfl, HT.out.trans (T2.trans (T3.trans T4))⟩
end Go.Proofs.Ytoihjobdfjajfaa
