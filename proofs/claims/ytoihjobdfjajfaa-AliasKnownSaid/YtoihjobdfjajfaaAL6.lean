/- alias.More; sizarlaw13's awake. -/
import Derived.Test.YtoihjobdfjajfaaAL5
namespace Go.Proofs.Ytoihjobdfjajfaa
set_option linter.unusedVariables false
set_option linter.unusedSimpArgs false
open Go.RowKit Go.Maps

/-- One says more than another. -/
def moreB {α β : Type} (a : Tm α) (b : Tm β) : Bool := goodB a && (goodB b && Tm.moreS a.bare b.bare)
theorem baresM_none' : baresM (fun _ => none) = fun _ => none := rfl
set_option maxRecDepth 100000 in
set_option maxHeartbeats 3200000 in
theorem more78 {p : Nat → Prop} {a b : LT} {w : World} (ha : a.In p w) (hb : b.In p w) (sa : slim a) (sb : slim b) :
    Calls Try.prog 78 #[a.val, b.val] w fun e w' => e = .returned (.bool (moreB a b)) ∧ Turned (fun _ => False) w w' := by
  have hmm := @run_makeMap Try.prog
  have h2 := twoBox w (.cells #[.int .i64 a.kind, .int .i64 a.n, .string a.name, .slice a.at_.1 a.args.length a.at_.2] 27) (.cells #[.int .i64 b.kind, .int .i64 b.n, .string b.name, .slice b.at_.1 b.args.length b.at_.2] 27)
  have hkp : ∀ W, Turned (fun _ => False) ((w.alloc (.cells #[.int .i64 a.kind, .int .i64 a.n, .string a.name, .slice a.at_.1 a.args.length a.at_.2] 27)).alloc (.cells #[.int .i64 b.kind, .int .i64 b.n, .string b.name, .slice b.at_.1 b.args.length b.at_.2] 27)) W →
      (W.cell? ⟨w.heap.size, 0, none⟩ = some (.int .i64 a.kind) ∧ W.cell? ⟨w.heap.size, 1, none⟩ = some (.int .i64 a.n) ∧ W.cell? ⟨w.heap.size, 2, none⟩ = some (.string a.name) ∧ W.cell? ⟨w.heap.size, 3, none⟩ = some (.slice a.at_.1 a.args.length a.at_.2)) ∧
      (W.cell? ⟨w.heap.size + 1, 0, none⟩ = some (.int .i64 b.kind) ∧ W.cell? ⟨w.heap.size + 1, 1, none⟩ = some (.int .i64 b.n) ∧ W.cell? ⟨w.heap.size + 1, 2, none⟩ = some (.string b.name) ∧ W.cell? ⟨w.heap.size + 1, 3, none⟩ = some (.slice b.at_.1 b.args.length b.at_.2)) := fun W h =>
    ⟨four_of ((h.block _ (Array.getElem?_eq_some_iff.1 h2.2.2.1).1 (fun f => f)).trans h2.2.2.1), four_of ((h.block _ (Array.getElem?_eq_some_iff.1 h2.2.2.2).1 (fun f => f)).trans h2.2.2.2)⟩
  have ga := good38 (ha.turned0 h2.1) sa
  have gb := fun W (h : Turned (fun _ => False) w W) => good38 (hb.turned0 h) sb
  rw [LT.val_eq a] at ga ⊢
  rw [LT.val_eq b] at gb ⊢
  have HKP := Lib.hid hkp
  have HT := Lib.hid h2.1
  have HSZ := Lib.hid h2.2.1
  have HAB := Lib.hid (And.intro ha hb)
  clear hkp h2 ha hb sa sb
  cases g1 : goodB a with
  | false =>
    have e1 : moreB a b = false := by unfold moreB; rw [g1]; rfl
    rw [e1]
    rw [g1] at ga
    have GA := Lib.hid ga
    clear ga gb g1 e1
    go_enter Try.func78, Try.ntmps78
    go_wp2_with (go_at_call 38; (with_reducible refine GA.out.mono ?_); rintro e w3 ⟨rfl, T3⟩)
    go_ret
    exact ⟨rfl, HT.out.trans T3⟩
  | true =>
    rw [g1] at ga
    have GA := Lib.hid ga
    clear ga
    cases g2 : goodB b with
    | false =>
      have e1 : moreB a b = false := by unfold moreB; rw [g1, g2]; rfl
      rw [e1]
      rw [g2] at gb
      have GB := Lib.hid gb
      clear gb g1 g2 e1
      go_enter Try.func78, Try.ntmps78
      go_wp2_with (first
        | (go_at_call 38; (with_reducible refine GA.out.mono ?_); rintro e w3 ⟨rfl, T3⟩; obtain ⟨⟨a0, a1, a2, a3⟩, ⟨b0, b1, b2, b3⟩⟩ := HKP.out _ T3; have S3 := HT.out.trans T3)
        | (go_at_call 38; (with_reducible refine (GB.out _ S3).mono ?_); rintro e w4 ⟨rfl, T4⟩))
      go_ret
      exact ⟨rfl, S3.trans T4⟩
    | true =>
      have e1 : moreB a b = Tm.moreS a.bare b.bare := by unfold moreB; rw [g1, g2]; rfl
      rw [e1]
      rw [g2] at gb
      have hle : a.size ≤ 2000 := by
        unfold goodB at g1
        simp only [Bool.and_eq_true, decide_eq_true_eq] at g1
        exact g1.1
      have GB := Lib.hid gb
      have HGB := Lib.hid g2
      clear gb g1 g2 e1
      go_enter Try.func78, Try.ntmps78
      go_wp2_with (first
        | (go_at_call 38; (with_reducible refine GA.out.mono ?_); rintro e w3 ⟨rfl, T3⟩; obtain ⟨⟨a0, a1, a2, a3⟩, ⟨b0, b1, b2, b3⟩⟩ := HKP.out _ T3; have S3 := HT.out.trans T3)
        | (go_at_call 38; (with_reducible refine (GB.out _ S3).mono ?_); rintro e w4 ⟨rfl, T4⟩; obtain ⟨⟨a4, a5, a6, a7⟩, ⟨b4, b5, b6, b7⟩⟩ := HKP.out _ (T3.trans T4); have S4 := S3.trans T4))
      have S5 := S4.alloc (.map #[] 0)
      have hm := more139 (p := fun k => k < w.heap.size) (mb := w4.heap.size) (fun k hk e => by have := S4.size; omega) a.depth a b (w4.alloc (.map #[] 0)) 0 (fun _ => none) (Nat.le_refl _)
        ((HAB.out.1.mono (q := fun k => k < w.heap.size) (fun k hk _ => hk)).turned0 S5) ((HAB.out.2.mono (q := fun k => k < w.heap.size) (fun k hk _ => hk)).turned0 S5) HGB.out (IMap.made w4 Try.prog 2) (fun i x hx => by cases hx) (by omega)
      rw [LT.val_eq a, LT.val_eq b, baresM_none'] at hm
      (with_reducible refine hm.mono ?_)
      rintro e w6 ⟨rfl, T6, _⟩
      have S6 := S5.step T6 (fun i hi e => by have := S4.size; omega)
      go_wp2_with fail
      go_ret
      exact ⟨rfl, S6⟩
end Go.Proofs.Ytoihjobdfjajfaa
