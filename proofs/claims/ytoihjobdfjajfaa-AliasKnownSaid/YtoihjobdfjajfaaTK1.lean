/- TermKnown, plainly: what may not be, chains, bushes. No program in sight. -/
import Derived.Test.YtoihjobdfjajfaaTL1
import Derived.Test.YtoihjobdfjajfaaAw7
namespace Go.Proofs.Ytoihjobdfjajfaa
set_option linter.unusedVariables false
set_option linter.unusedSimpArgs false
open Go.RowKit
def zt : LT := leaf 0 0 ByteArray.empty
/-- The eleven that may not be. -/
def bads (a9 : Option Addr) (c9 : Nat) (a10 : Option Addr) (c10 : Nat) : List LT :=
  [leaf 3 0 ByteArray.empty, leaf (-1) 0 ByteArray.empty, leaf 0 (-1) ByteArray.empty, leaf 0 2147483648 ByteArray.empty, leaf 0 0 ⟨#[97]⟩, leaf 1 0 ⟨#[97]⟩, leaf 2 1 ⟨#[97]⟩, leaf 2 0 ⟨#[1]⟩, leaf 2 0 ⟨#[255]⟩,
    .mk 2 0 ⟨#[102]⟩ (a9, c9) [zt, zt, zt, zt, zt, zt, zt, zt, zt], .mk 1 0 ByteArray.empty (a10, c10) [zt]]
theorem bads_bad (a9 : Option Addr) (c9 : Nat) (a10 : Option Addr) (c10 : Nat) : ∀ x ∈ bads a9 c9 a10 c10, goodB x = false ∧ slim x := by
  have h : (bads a9 c9 a10 c10).all (fun x => !goodB x && x.flat.all (fun y => decide (y.args.length ≤ 12))) = true := by kernel_rfl
  intro x hx
  have := List.all_eq_true.1 h x hx
  simp only [Bool.and_eq_true, Bool.not_eq_true', List.all_eq_true] at this
  exact ⟨this.1, fun y hy => of_decide_eq_true (this.2 y hy)⟩

/-- So many round a number. -/
def ch : Nat → Tm Unit
  | 0 => .mk 1 0 ByteArray.empty () []
  | n + 1 => .mk 2 0 ⟨#[102]⟩ () [ch n]
/-- So many rows of eight. -/
def bush : Nat → Tm Unit
  | 0 => .mk 2 0 ⟨#[97]⟩ () []
  | n + 1 => .mk 2 0 ⟨#[103]⟩ () [bush n, bush n, bush n, bush n, bush n, bush n, bush n, bush n]
theorem ch_size (n : Nat) : (ch n).size = n + 1 := by
  induction n with
  | zero => rfl
  | succ n ih => simp only [ch, Tm.size, Tm.sizes, ih]; omega
theorem ch_depth (n : Nat) : (ch n).depth = n + 1 := by
  induction n with
  | zero => rfl
  | succ n ih => simp only [ch, Tm.depth, Tm.depths, ih]; omega
theorem ch_all (n : Nat) : (ch n).flat.all (fun x => goodOneB x && decide (x.args.length ≤ 12)) = true := by
  induction n with
  | zero => kernel_rfl
  | succ n ih =>
    simp only [ch, Tm.flat, Tm.flats, List.append_nil, List.all_cons, ih, Bool.and_true]
    rfl
theorem all_two {α : Type} {t : Tm α} (h : t.flat.all (fun x => goodOneB x && decide (x.args.length ≤ 12)) = true) : t.flat.all goodOneB = true ∧ slim t := by
  simp only [List.all_eq_true, Bool.and_eq_true, decide_eq_true_eq] at h ⊢
  exact ⟨fun x hx => (h x hx).1, fun x hx => (h x hx).2⟩
theorem ch_good (n : Nat) : goodB (ch n) = decide (n ≤ 63) := by
  unfold goodB
  rw [ch_size, ch_depth, (all_two (ch_all n)).1]
  by_cases h : n ≤ 63
  · rw [decide_eq_true h, decide_eq_true (by omega), decide_eq_true (by omega)]; rfl
  · rw [decide_eq_false h, decide_eq_false (show ¬ n + 1 ≤ 64 by omega)]; simp
theorem bush_size : (bush 4).size = 4681 := by
  have h : ∀ n, (bush (n + 1)).size = 1 + 8 * (bush n).size := fun n => by simp only [bush, Tm.size, Tm.sizes]; omega
  rw [h, h, h, h]; rfl
theorem bush_all (n : Nat) : (bush n).flat.all (fun x => goodOneB x && decide (x.args.length ≤ 12)) = true := by
  induction n with
  | zero => kernel_rfl
  | succ n ih =>
    simp only [bush, Tm.flat, Tm.flats, List.append_nil, List.all_cons, List.all_append, ih, Bool.and_true]
    rfl
theorem bush_good : goodB (bush 4) = false := by
  unfold goodB
  rw [bush_size]; rfl
section
variable {t : LT}
theorem ch_of {n : Nat} (h : t.bare = ch n) : goodB t = decide (n ≤ 63) ∧ slim t ∧ t.depth = n + 1 :=
  ⟨by rw [← goodB_bare, h, ch_good], slim_eq' (t := ch n) (by rw [Tm.bare_unit]; exact h.symm) (all_two (ch_all n)).2, by rw [← Tm.depth_bare, h, ch_depth]⟩
theorem bush_of (h : t.bare = bush 4) : goodB t = false ∧ slim t ∧ t.size = 4681 :=
  ⟨by rw [← goodB_bare, h, bush_good], slim_eq' (t := bush 4) (by rw [Tm.bare_unit]; exact h.symm) (all_two (bush_all 4)).2, by rw [← Tm.size_bare, h, bush_size]⟩
/-- The list of two. -/
theorem two_of (h : t.bare = Tm.listB ([leaf 1 1 ByteArray.empty, leaf 2 0 ⟨#[98]⟩].map Tm.bare) (leaf 0 0 ByteArray.empty).bare) : goodB t = true ∧ slim t ∧ t.size = 5 := by
  have h1 : goodB (Tm.listB ([leaf 1 1 ByteArray.empty, leaf 2 0 ⟨#[98]⟩].map Tm.bare) (leaf 0 0 ByteArray.empty).bare) = true := by kernel_rfl
  have h2 : (Tm.listB ([leaf 1 1 ByteArray.empty, leaf 2 0 ⟨#[98]⟩].map Tm.bare) (leaf 0 0 ByteArray.empty).bare).flat.all (fun x => goodOneB x && decide (x.args.length ≤ 12)) = true := by kernel_rfl
  exact ⟨by rw [← goodB_bare, h, h1], slim_eq' (by rw [Tm.bare_unit]; exact h.symm) (all_two h2).2, by rw [← Tm.size_bare, h]; rfl⟩
theorem two_items {us : List LT} {y : LT} (h : t.bare = Tm.listB ([leaf 1 1 ByteArray.empty, leaf 2 0 ⟨#[98]⟩].map Tm.bare) (leaf 0 0 ByteArray.empty).bare) (hi : (us, y) = Tm.items t) :
    us.length = 2 ∧ (∃ x, us[1]? = some x ∧ x.bare = (leaf 2 0 ⟨#[98]⟩).bare) ∧ y.bare = (leaf 0 0 ByteArray.empty).bare := by
  have h1 := Tm.items_bare _ t (Nat.le_refl _)
  rw [h, Tm.items_listB, ← hi] at h1
  have h0 : Tm.items (leaf 0 0 ByteArray.empty).bare = ([], (leaf 0 0 ByteArray.empty).bare) := Tm.items_end (by kernel_rfl)
  rw [h0] at h1
  injection h1 with e1 e2
  simp only [List.append_nil] at e1
  have hl : us.length = 2 := by have := congrArg List.length e1; simpa using this.symm
  refine ⟨hl, ?_, e2.symm⟩
  match us, hl with
  | [p, q], _ =>
    simp only [List.map_cons, List.map_nil, List.cons.injEq, and_true] at e1
    exact ⟨q, rfl, e1.2.symm⟩
end
theorem leafIn' {p : Nat → Prop} {w : World} {k n : Int} {s : ByteArray} (h1 : I64 k) (h2 : I64 n) (h3 : s.size ≤ maxLen) : (leaf k n s).In p w :=
  LT.In.mk h1 h2 h3 (Nat.le_refl _) (by unfold maxLen; omega) (fun _ => ⟨rfl, rfl⟩) (fun h => absurd h (by decide)) trivial
theorem leafSlim' (k n : Int) (s : ByteArray) : slim (leaf k n s) := by
  intro x hx
  simp only [leaf, Tm.flat, Tm.flats, List.mem_cons, List.not_mem_nil, or_false] at hx
  subst hx
  exact Nat.zero_le _
end Go.Proofs.Ytoihjobdfjajfaa
