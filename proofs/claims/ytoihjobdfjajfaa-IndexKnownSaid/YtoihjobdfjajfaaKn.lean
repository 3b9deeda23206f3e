/- IndexKnown's walk. -/
import Derived.Test.YtoihjobdfjajfaaIdxAll
import Derived.Test.YtoihjobdfjajfaaAny4
namespace Go.Proofs.Ytoihjobdfjajfaa
set_option linter.unusedVariables false
set_option linter.unusedSimpArgs false
open Go.RowKit Go.Maps
attribute [local go_sem ↓] Go.wp_at_zero Go.wp_at_succ

theorem of_lit {w : World} {t : LT} (h : LT.In (fun _ => True) w t) (hs : slim t) (k n : Int) (s : ByteArray) (a : Int) (hk : keyOf t = ⟨k, n, s, a⟩) :
    Calls Try.prog 42 #[t.val] w fun e w' => e = .returned (.agg #[.int .i64 k, .int .i64 n, .string s, .int .i64 a]) ∧ Turned (fun _ => False) w w' := by
  refine (of42 h hs).mono ?_
  rintro e w' ⟨rfl, ht⟩
  rw [hk]
  exact ⟨rfl, ht⟩
section
variable (a c a' : Option Addr) (n m n' : Nat)
def tP1 (a : Option Addr) (n : Nat) : LT := .mk 2 0 ⟨#[112]⟩ (a, n) [leaf 1 7 ByteArray.empty, leaf 0 0 ByteArray.empty]
def tF (a : Option Addr) (n : Nat) : LT := .mk 2 0 ⟨#[102]⟩ (a, n) [leaf 0 0 ByteArray.empty]
def tP2 (a : Option Addr) (n : Nat) (c : Option Addr) (m : Nat) : LT := .mk 2 0 ⟨#[112]⟩ (c, m) [tF a n]
theorem tP1_key : keyOf (tP1 a n) = ⟨1, 7, ByteArray.empty, 0⟩ := by kernel_rfl
theorem tP2_key : keyOf (tP2 a n c m) = ⟨2, 0, ⟨#[102]⟩, 1⟩ := by kernel_rfl
theorem tP1_slim : slim (tP1 a n) := by
  intro x hx
  simp [tP1, leaf, Tm.flat, Tm.flats] at hx
  rcases hx with rfl | rfl | rfl <;> simp [Tm.args]
theorem tP2_slim : slim (tP2 a n c m) := by
  intro x hx
  simp [tP2, tF, leaf, Tm.flat, Tm.flats] at hx
  rcases hx with rfl | rfl | rfl <;> simp [Tm.args]
end
/-- An index in memory that was made since w0. -/
structure OnX (w0 : World) (xb mb : Nat) (v : Value) (ks : List Key) (gone : List Int) (w : World) : Prop where
  idx : IdxIn xb mb v ks gone w
  apart : ∀ k, MineX xb mb v k → w0.heap.size ≤ k
  turned : Turned (fun _ => False) w0 w
section
variable {w0 : World} {xb mb : Nat} {v v' : Value} {ks ks' : List Key} {gone gone' : List Int} {w w' : World}
theorem OnX.turned0 (h : OnX w0 xb mb v ks gone w) (ht : Turned (fun _ => False) w w') : OnX w0 xb mb v ks gone w' := ⟨h.idx.turned0 ht, h.apart, h.turned.trans ht⟩
theorem OnX.moved (h : OnX w0 xb mb v ks gone w) (hi : IdxIn xb mb v' ks' gone' w') (ht : Turned (MineX xb mb v) w w') (hv : v'.ownBlock = v.ownBlock ∨ ∃ g, v'.ownBlock = some g ∧ w.heap.size ≤ g) : OnX w0 xb mb v' ks' gone' w' := by
  refine ⟨hi, fun k hk => ?_, h.turned.step ht (fun i hi hm => by have := h.apart _ hm; omega)⟩
  rcases hk with e | e | e
  · exact h.apart k (.inl e)
  · exact h.apart k (.inr (.inl e))
  · rcases hv with h1 | ⟨g, h1, h2⟩
    · exact h.apart k (.inr (.inr (by rw [← h1]; exact e)))
    · rw [h1] at e
      injection e with e
      subst e
      have := h.turned.size
      omega
/-- A row of ints beside the index. -/
structure Off (xb mb : Nat) (v r : Value) (xs : List Int) (w : World) : Prop where
  row : Row w 3 1 r xs.length (xs.map (Value.int .i64))
  off : ∀ b, r.ownBlock = some b → ¬ MineX xb mb v b
theorem Off.turned0 {r : Value} {xs : List Int} (h : Off xb mb v r xs w) (ht : Turned (fun _ => False) w w') : Off xb mb v r xs w' := ⟨h.row.turned0 ht, h.off⟩
theorem Off.moved {r : Value} {xs : List Int} (h : Off xb mb v r xs w) (ht : Turned (MineX xb mb v) w w') (hv : v'.ownBlock = v.ownBlock ∨ ∃ g, v'.ownBlock = some g ∧ w.heap.size ≤ g) : Off xb mb v' r xs w' := by
  refine ⟨h.row.turned ht h.off, fun b hb hm => ?_⟩
  have hl := h.row.lt b hb
  rcases hm with e | e | e
  · exact h.off b hb (.inl e)
  · exact h.off b hb (.inr (.inl e))
  · rcases hv with h1 | ⟨g, h1, h2⟩
    · exact h.off b hb (.inr (.inr (by rw [← h1]; exact e)))
    · rw [h1] at e
      injection e with e
      omega
theorem new_on (w : World) : Calls Try.prog 53 #[] w fun e w' => ∃ xb mb v, e = .returned (.pointer (some ⟨xb, 0, none⟩)) ∧ OnX w xb mb v [] [] w' := by
  refine (new53 w).mono ?_
  rintro e w' ⟨rfl, X, T⟩
  refine ⟨_, _, _, rfl, X, fun k hk => ?_, T⟩
  rcases hk with rfl | rfl | e
  · omega
  · omega
  · simp [Value.ownBlock] at e
theorem add_on (h : OnX w0 xb mb v ks gone w) (k n : Int) (s : ByteArray) (a m : Int) (hm : (ks.length : Int) = m) (hn : ks.length ≤ 60000) :
    Calls Try.prog 54 #[.pointer (some ⟨xb, 0, none⟩), .agg #[.int .i64 k, .int .i64 n, .string s, .int .i64 a]] w fun e w' => e = .returned (.int .i64 m) ∧ ∃ v', OnX w0 xb mb v' (ks ++ [⟨k, n, s, a⟩]) gone w' ∧ (∀ r xs, Off xb mb v r xs w → Off xb mb v' r xs w') := by
  refine (add54 h.idx ⟨k, n, s, a⟩ hn).mono ?_
  rintro e w' ⟨rfl, v', X, T, hv⟩
  rw [hm]
  exact ⟨rfl, v', h.moved X T hv, fun r xs ho => ho.moved T hv⟩
theorem drop_on (h : OnX w0 xb mb v ks gone w) (i : Int) (hi : I64 i) (hn : gone.length ≤ 100000) (B : Bool) (g' : List Int) (hB : dropB ks.length gone i = B) (hg : (if B then gone ++ [i] else gone) = g') :
    Calls Try.prog 55 #[.pointer (some ⟨xb, 0, none⟩), .int .i64 i] w fun e w' => e = .returned (.bool B) ∧ OnX w0 xb mb v ks g' w' ∧ (∀ r xs, Off xb mb v r xs w → Off xb mb v r xs w') := by
  refine (drop55 h.idx i hi hn).mono ?_
  rintro e w' ⟨rfl, X, T⟩
  rw [hB] at X ⊢
  rw [hg] at X
  exact ⟨rfl, h.moved X T (.inl rfl), fun r xs ho => ho.moved T (.inl rfl)⟩
theorem pick_on (h : OnX w0 xb mb v ks gone w) (k n : Int) (s : ByteArray) (a : Int) (hn : ks.length ≤ 60000) (xs : List Int) (hx : thereB gone (pickB ⟨k, n, s, a⟩ ks 0) = xs) :
    Calls Try.prog 59 #[.pointer (some ⟨xb, 0, none⟩), .agg #[.int .i64 k, .int .i64 n, .string s, .int .i64 a]] w fun e w' => ∃ r, e = .returned r ∧ Off xb mb v r xs w' ∧ OnX w0 xb mb v ks gone w' ∧ Turned (fun _ => False) w w' := by
  refine (pickX59 h.idx ⟨k, n, s, a⟩ hn).mono ?_
  rintro e w' ⟨r, rfl, hr, hb, T⟩
  rw [hx] at hr
  exact ⟨r, rfl, ⟨hr, fun b hb' hm => by have := hb b hb'; have := h.idx.lt b hm; omega⟩, h.turned0 T, T⟩
theorem may_lit (k n : Int) (s : ByteArray) (a k' n' : Int) (s' : ByteArray) (a' : Int) (B : Bool) (hB : mayB ⟨k, n, s, a⟩ ⟨k', n', s', a'⟩ = B) (w : World) :
    Calls Try.prog 43 #[.agg #[.int .i64 k, .int .i64 n, .string s, .int .i64 a], .agg #[.int .i64 k', .int .i64 n', .string s', .int .i64 a']] w fun e w' => e = .returned (.bool B) ∧ Turned (fun _ => False) w w' := by
  refine (may43 ⟨k, n, s, a⟩ ⟨k', n', s', a'⟩ w).mono ?_
  rintro e w' ⟨rfl, T⟩
  rw [hB]
  exact ⟨rfl, T⟩
end
section
variable {w0 : World} {xb mb : Nat} {v : Value} {w : World}
theorem addK1 (h : OnX w0 xb mb v [] [] w) : Calls Try.prog 54 #[.pointer (some ⟨xb, 0, none⟩), .agg #[.int .i64 1, .int .i64 7, .string ByteArray.empty, .int .i64 0]] w fun e w' => e = .returned (.int .i64 0) ∧ ∃ v', OnX w0 xb mb v' [⟨1, 7, ByteArray.empty, 0⟩] [] w' ∧ (∀ r xs, Off xb mb v r xs w → Off xb mb v' r xs w') := add_on h 1 7 ByteArray.empty 0 0 rfl (by simp)
theorem addK2 (h : OnX w0 xb mb v [⟨1, 7, ByteArray.empty, 0⟩] [] w) : Calls Try.prog 54 #[.pointer (some ⟨xb, 0, none⟩), .agg #[.int .i64 0, .int .i64 0, .string ByteArray.empty, .int .i64 0]] w fun e w' => e = .returned (.int .i64 1) ∧ ∃ v', OnX w0 xb mb v' [⟨1, 7, ByteArray.empty, 0⟩, ⟨0, 0, ByteArray.empty, 0⟩] [] w' ∧ (∀ r xs, Off xb mb v r xs w → Off xb mb v' r xs w') := add_on h 0 0 ByteArray.empty 0 1 rfl (by simp)
theorem addK3 (h : OnX w0 xb mb v [⟨1, 7, ByteArray.empty, 0⟩, ⟨0, 0, ByteArray.empty, 0⟩] [] w) : Calls Try.prog 54 #[.pointer (some ⟨xb, 0, none⟩), .agg #[.int .i64 2, .int .i64 0, .string ⟨#[102]⟩, .int .i64 1]] w fun e w' => e = .returned (.int .i64 2) ∧ ∃ v', OnX w0 xb mb v' [⟨1, 7, ByteArray.empty, 0⟩, ⟨0, 0, ByteArray.empty, 0⟩, ⟨2, 0, ⟨#[102]⟩, 1⟩] [] w' ∧ (∀ r xs, Off xb mb v r xs w → Off xb mb v' r xs w') := add_on h 2 0 ⟨#[102]⟩ 1 2 rfl (by simp)
theorem addK4 (h : OnX w0 xb mb v [⟨1, 7, ByteArray.empty, 0⟩, ⟨0, 0, ByteArray.empty, 0⟩, ⟨2, 0, ⟨#[102]⟩, 1⟩] [] w) : Calls Try.prog 54 #[.pointer (some ⟨xb, 0, none⟩), .agg #[.int .i64 1, .int .i64 7, .string ByteArray.empty, .int .i64 0]] w fun e w' => e = .returned (.int .i64 3) ∧ ∃ v', OnX w0 xb mb v' [⟨1, 7, ByteArray.empty, 0⟩, ⟨0, 0, ByteArray.empty, 0⟩, ⟨2, 0, ⟨#[102]⟩, 1⟩, ⟨1, 7, ByteArray.empty, 0⟩] [] w' ∧ (∀ r xs, Off xb mb v r xs w → Off xb mb v' r xs w') := add_on h 1 7 ByteArray.empty 0 3 rfl (by simp)
theorem addK5 (h : OnX w0 xb mb v [⟨1, 7, ByteArray.empty, 0⟩, ⟨0, 0, ByteArray.empty, 0⟩, ⟨2, 0, ⟨#[102]⟩, 1⟩, ⟨1, 7, ByteArray.empty, 0⟩] [0] w) : Calls Try.prog 54 #[.pointer (some ⟨xb, 0, none⟩), .agg #[.int .i64 1, .int .i64 7, .string ByteArray.empty, .int .i64 0]] w fun e w' => e = .returned (.int .i64 4) ∧ ∃ v', OnX w0 xb mb v' [⟨1, 7, ByteArray.empty, 0⟩, ⟨0, 0, ByteArray.empty, 0⟩, ⟨2, 0, ⟨#[102]⟩, 1⟩, ⟨1, 7, ByteArray.empty, 0⟩, ⟨1, 7, ByteArray.empty, 0⟩] [0] w' ∧ (∀ r xs, Off xb mb v r xs w → Off xb mb v' r xs w') := add_on h 1 7 ByteArray.empty 0 4 rfl (by simp)
end
section
variable {w0 : World} {xb mb : Nat} {v : Value} {w : World}
theorem pickK1 (h : OnX w0 xb mb v [⟨1, 7, ByteArray.empty, 0⟩, ⟨0, 0, ByteArray.empty, 0⟩, ⟨2, 0, ⟨#[102]⟩, 1⟩, ⟨1, 7, ByteArray.empty, 0⟩] [] w) : Calls Try.prog 59 #[.pointer (some ⟨xb, 0, none⟩), .agg #[.int .i64 1, .int .i64 7, .string ByteArray.empty, .int .i64 0]] w fun e w' => ∃ r, e = .returned r ∧ Off xb mb v r [0, 1, 3] w' ∧ OnX w0 xb mb v [⟨1, 7, ByteArray.empty, 0⟩, ⟨0, 0, ByteArray.empty, 0⟩, ⟨2, 0, ⟨#[102]⟩, 1⟩, ⟨1, 7, ByteArray.empty, 0⟩] [] w' ∧ Turned (fun _ => False) w w' := pick_on h 1 7 ByteArray.empty 0 (by simp) [0, 1, 3] (by decide)
theorem pickK2 (h : OnX w0 xb mb v [⟨1, 7, ByteArray.empty, 0⟩, ⟨0, 0, ByteArray.empty, 0⟩, ⟨2, 0, ⟨#[102]⟩, 1⟩, ⟨1, 7, ByteArray.empty, 0⟩] [0] w) : Calls Try.prog 59 #[.pointer (some ⟨xb, 0, none⟩), .agg #[.int .i64 1, .int .i64 7, .string ByteArray.empty, .int .i64 0]] w fun e w' => ∃ r, e = .returned r ∧ Off xb mb v r [1, 3] w' ∧ OnX w0 xb mb v [⟨1, 7, ByteArray.empty, 0⟩, ⟨0, 0, ByteArray.empty, 0⟩, ⟨2, 0, ⟨#[102]⟩, 1⟩, ⟨1, 7, ByteArray.empty, 0⟩] [0] w' ∧ Turned (fun _ => False) w w' := pick_on h 1 7 ByteArray.empty 0 (by simp) [1, 3] (by decide)
theorem pickK3 (h : OnX w0 xb mb v [⟨1, 7, ByteArray.empty, 0⟩, ⟨0, 0, ByteArray.empty, 0⟩, ⟨2, 0, ⟨#[102]⟩, 1⟩, ⟨1, 7, ByteArray.empty, 0⟩] [0] w) : Calls Try.prog 59 #[.pointer (some ⟨xb, 0, none⟩), .agg #[.int .i64 0, .int .i64 0, .string ByteArray.empty, .int .i64 0]] w fun e w' => ∃ r, e = .returned r ∧ Off xb mb v r [1, 2, 3] w' ∧ OnX w0 xb mb v [⟨1, 7, ByteArray.empty, 0⟩, ⟨0, 0, ByteArray.empty, 0⟩, ⟨2, 0, ⟨#[102]⟩, 1⟩, ⟨1, 7, ByteArray.empty, 0⟩] [0] w' ∧ Turned (fun _ => False) w w' := pick_on h 0 0 ByteArray.empty 0 (by simp) [1, 2, 3] (by decide)
theorem dropK1 (h : OnX w0 xb mb v [⟨1, 7, ByteArray.empty, 0⟩, ⟨0, 0, ByteArray.empty, 0⟩, ⟨2, 0, ⟨#[102]⟩, 1⟩, ⟨1, 7, ByteArray.empty, 0⟩] [] w) : Calls Try.prog 55 #[.pointer (some ⟨xb, 0, none⟩), .int .i64 0] w fun e w' => e = .returned (.bool true) ∧ OnX w0 xb mb v [⟨1, 7, ByteArray.empty, 0⟩, ⟨0, 0, ByteArray.empty, 0⟩, ⟨2, 0, ⟨#[102]⟩, 1⟩, ⟨1, 7, ByteArray.empty, 0⟩] [0] w' ∧ (∀ r xs, Off xb mb v r xs w → Off xb mb v r xs w') := drop_on h 0 (i64_lit _ (by omega)) (by simp) true [0] (by decide) rfl
theorem dropK2 (h : OnX w0 xb mb v [⟨1, 7, ByteArray.empty, 0⟩, ⟨0, 0, ByteArray.empty, 0⟩, ⟨2, 0, ⟨#[102]⟩, 1⟩, ⟨1, 7, ByteArray.empty, 0⟩] [0] w) : Calls Try.prog 55 #[.pointer (some ⟨xb, 0, none⟩), .int .i64 0] w fun e w' => e = .returned (.bool false) ∧ OnX w0 xb mb v [⟨1, 7, ByteArray.empty, 0⟩, ⟨0, 0, ByteArray.empty, 0⟩, ⟨2, 0, ⟨#[102]⟩, 1⟩, ⟨1, 7, ByteArray.empty, 0⟩] [0] w' ∧ (∀ r xs, Off xb mb v r xs w → Off xb mb v r xs w') := drop_on h 0 (i64_lit _ (by omega)) (by simp) false [0] (by decide) rfl
theorem dropK3 (h : OnX w0 xb mb v [⟨1, 7, ByteArray.empty, 0⟩, ⟨0, 0, ByteArray.empty, 0⟩, ⟨2, 0, ⟨#[102]⟩, 1⟩, ⟨1, 7, ByteArray.empty, 0⟩] [0] w) : Calls Try.prog 55 #[.pointer (some ⟨xb, 0, none⟩), .int .i64 9] w fun e w' => e = .returned (.bool false) ∧ OnX w0 xb mb v [⟨1, 7, ByteArray.empty, 0⟩, ⟨0, 0, ByteArray.empty, 0⟩, ⟨2, 0, ⟨#[102]⟩, 1⟩, ⟨1, 7, ByteArray.empty, 0⟩] [0] w' ∧ (∀ r xs, Off xb mb v r xs w → Off xb mb v r xs w') := drop_on h 9 (i64_lit _ (by omega)) (by simp) false [0] (by decide) rfl
theorem intsK {a b : Value} {xs ys : List Int} (B : Bool) (hB : decide (xs = ys) = B) (h : Row w 3 1 a xs.length (xs.map (Value.int .i64))) (h' : Row w 3 1 b ys.length (ys.map (Value.int .i64))) : Calls Try.prog 58 #[a, b] w fun e w' => e = .returned (.bool B) ∧ Turned (fun _ => False) w w' := hB ▸ ints58 h h'
end
def tP3 (a : Option Addr) (n : Nat) : LT := .mk 2 0 ⟨#[112]⟩ (a, n) [leaf 0 3 ByteArray.empty]
theorem tP3_key (a : Option Addr) (n : Nat) : keyOf (tP3 a n) = ⟨0, 0, ByteArray.empty, 0⟩ := by kernel_rfl
theorem tP3_slim (a : Option Addr) (n : Nat) : slim (tP3 a n) := by
  intro x hx
  simp [tP3, leaf, Tm.flat, Tm.flats] at hx
  rcases hx with rfl | rfl <;> simp [Tm.args]
theorem leaf_slim (k n : Int) (s : ByteArray) : slim (leaf k n s) := by
  intro x hx
  simp [leaf, Tm.flat, Tm.flats] at hx
  subst hx
  simp [Tm.args]
theorem two_boxes {w : World} {a b c d a' b' c' d' : Value} {W : World} (h : Turned (fun _ => False) ((w.alloc (.cells #[a, b, c, d] 35)).alloc (.cells #[a', b', c', d'] 35)) W) :
    W.cell? ⟨w.heap.size, 0, none⟩ = some a ∧ W.cell? ⟨w.heap.size, 1, none⟩ = some b ∧ W.cell? ⟨w.heap.size, 2, none⟩ = some c ∧ W.cell? ⟨w.heap.size, 3, none⟩ = some d ∧
    W.cell? ⟨w.heap.size + 1, 0, none⟩ = some a' ∧ W.cell? ⟨w.heap.size + 1, 1, none⟩ = some b' ∧ W.cell? ⟨w.heap.size + 1, 2, none⟩ = some c' ∧ W.cell? ⟨w.heap.size + 1, 3, none⟩ = some d' := by
  have h1 := (h.block w.heap.size (by simp; omega) (fun f => f)).trans (heap_alloc2_old w (.cells #[a, b, c, d] 35) (.cells #[a', b', c', d'] 35))
  have h2 := (h.block (w.heap.size + 1) (by simp) (fun f => f)).trans (heap_alloc2_new w (.cells #[a, b, c, d] 35) (.cells #[a', b', c', d'] 35))
  obtain ⟨x0, x1, x2, x3, _⟩ := cells4 h1
  obtain ⟨y0, y1, y2, y3, _⟩ := cells4 h2
  exact ⟨x0, x1, x2, x3, y0, y1, y2, y3⟩
theorem leaf_in {p : Nat → Prop} {w : World} (k n : Int) (s : ByteArray) (h1 : I64 k) (h2 : I64 n) (h3 : s.size ≤ maxLen) : LT.In p w (leaf k n s) :=
  LT.In.mk h1 h2 h3 (Nat.le_refl _) (by unfold maxLen; omega) (fun _ => ⟨rfl, rfl⟩) (fun h => absurd h (by decide)) trivial
theorem row_of (xs : List Int) (w : World) (cs : Array Value) (n : Nat) (m : Nat) (hm : m = n) (hcs : cs = (xs.map (Value.int .i64)).toArray) (hn : xs.length = n ∧ n ≤ 1000) : Row (w.alloc (.cells cs 3)) 3 1 (.slice (some ⟨w.heap.size, 0, none⟩) n m) xs.length (xs.map (Value.int .i64)) := by
  subst hm hcs
  have := Row.made w 3 1 (xs.map (Value.int .i64)).toArray m (by simp [hn.1]) (by unfold maxLen; omega)
  rw [hn.1]
  simpa using this
def KV : List Value := [.int .i64 0, .int .i64 1, .int .i64 2, .int .i64 3]
def KL : List Key := [⟨1, 7, ByteArray.empty, 0⟩, ⟨0, 0, ByteArray.empty, 0⟩, ⟨2, 0, ⟨#[102]⟩, 1⟩, ⟨1, 7, ByteArray.empty, 0⟩]
/-- So many Adds have been. -/
def RK7 (wb : World) (xb mb : Nat) (hs : List Value) (W : World) : Prop := hs = KV.take hs.length ∧ hs.length ≤ 4 ∧ ∃ v, OnX wb xb mb v (KL.take hs.length) [] W
theorem rk7_val {wb : World} {xb mb : Nat} {hs : List Value} {W : World} (h : RK7 wb xb mb hs W) {k : Nat} {x v : Value} (hk : KV[k]? = some x) (hv : hs[k]? = some v) : v = x := by
  have h1 := h.1
  rw [h1, List.getElem?_take] at hv
  split at hv
  · rw [hk] at hv; injection hv with hv; exact hv.symm
  · cases hv
theorem rk7_end {wb : World} {xb mb : Nat} {hs : List Value} {W : World} (hl : hs.length = [2, 5, 8, 11].length) (h : RK7 wb xb mb hs W) : ∃ v, OnX wb xb mb v [⟨1, 7, ByteArray.empty, 0⟩, ⟨0, 0, ByteArray.empty, 0⟩, ⟨2, 0, ⟨#[102]⟩, 1⟩, ⟨1, 7, ByteArray.empty, 0⟩] [] W := by
  obtain ⟨_, _, v, h⟩ := h
  rw [hl] at h
  exact ⟨v, h⟩
set_option maxRecDepth 100000 in
set_option maxHeartbeats 40000000 in
theorem indexKnown (w : World) : Calls Try.prog 8 #[] w fun e w' => e = .returned (.bool true) ∧ Turned (fun _ => False) w w' := by
  go_enter Try.func8, Try.ntmps8
  go_wp2_with (first
    | (go_at_call 40; refine (awake40 _).mono ?_; rintro e w0 ⟨rfl, T0⟩)
    | (go_at_call 61; refine (intV 7 (i64_lit _ (by omega)) _).mono ?_; rintro e w1 ⟨rfl, i1, T1⟩)
    | (go_at_call 62; have := T4; refine (varV 0 (i64_lit _ (by omega)) _).mono ?_; rintro e w5 ⟨rfl, i5, T5⟩)
    | (go_at_call 62; refine (varV 0 (i64_lit _ (by omega)) _).mono ?_; rintro e w2 ⟨rfl, i2, T2⟩)
    | (go_at_call_of 37 (Value.string ⟨#[102]⟩); refine (compV ⟨#[102]⟩ (by unfold maxLen; decide) 1 (by decide) rfl (sl_made (l := [leaf 0 0 ByteArray.empty]) ⟨i5, trivial⟩ 1 (by decide) rfl _ rfl)).mono ?_; rintro e w6 ⟨a6, c6, rfl, i6, T6⟩)
    | (go_at_call_of 37 (Value.string ⟨#[112]⟩); refine (compV ⟨#[112]⟩ (by unfold maxLen; decide) 1 (by decide) rfl (sl_made (l := [tF a6 c6]) ⟨i6, trivial⟩ 1 (by decide) rfl _ rfl)).mono ?_; rintro e w7 ⟨a7, c7, rfl, i7, T7⟩)
    | (go_at_call_of 37 (Value.string ⟨#[112]⟩); refine (compV ⟨#[112]⟩ (by unfold maxLen; decide) 2 (by decide) rfl (sl_made (l := [leaf 1 7 ByteArray.empty, leaf 0 0 ByteArray.empty]) ⟨i1.turned0 T2, i2, trivial⟩ 2 (by decide) rfl _ rfl)).mono ?_; rintro e w3 ⟨a3, c3, rfl, i3, T3⟩)
    | (go_at_call 42; refine (of_lit (t := tP2 a6 c6 a7 c7) i7 (tP2_slim _ _ _ _) 2 0 ⟨#[102]⟩ 1 (tP2_key _ _ _ _)).mono ?_; rintro e w8 ⟨rfl, T8⟩)
    | (go_at_call 42; refine (of_lit (t := tP1 a3 c3) i3 (tP1_slim _ _) 1 7 ByteArray.empty 0 (tP1_key _ _)).mono ?_; rintro e w4 ⟨rfl, T4⟩))
  have T9 : Turned (fun _ => False) w w8 := T0.trans (T1.trans (T2.trans (((Turned.refl _ w2).alloc _).trans (T3.trans (T4.trans (T5.trans (((Turned.refl _ w5).alloc _).trans (T6.trans (((Turned.refl _ w6).alloc _).trans (T7.trans T8))))))))))
  have hbx := fun W (h : Turned (fun _ => False) ((w8.alloc (.cells #[.int .i64 1, .int .i64 7, .string ByteArray.empty, .int .i64 0] 35)).alloc (.cells #[.int .i64 2, .int .i64 0, .string ⟨#[102]⟩, .int .i64 1] 35)) W) => two_boxes h
  have T10 := (T9.alloc (.cells #[.int .i64 1, .int .i64 7, .string ByteArray.empty, .int .i64 0] 35)).alloc (.cells #[.int .i64 2, .int .i64 0, .string ⟨#[102]⟩, .int .i64 1] 35)
  have HB := Lib.hid hbx
  clear hbx T0 T1 T2 T3 T4 T5 T6 T7 T8 T9 this i1 i2 i3 i5 i6 i7
  revert HB T10
  generalize (w8.alloc (.cells #[.int .i64 1, .int .i64 7, .string ByteArray.empty, .int .i64 0] 35)).alloc (.cells #[.int .i64 2, .int .i64 0, .string ⟨#[102]⟩, .int .i64 1] 35) = wb
  intro T10 HB
  go_wp2_with (first
    | (go_at_call 53; refine (new_on _).mono ?_; rintro e w11 ⟨xb, mb, v0, rfl, X0⟩))
  have hv0 : ∀ hs W, RK7 wb xb mb hs W → ∀ v, hs[0]? = some v → v = .int .i64 0 := fun hs W h v hv => rk7_val h (k := 0) rfl hv
  have hv1 : ∀ hs W, RK7 wb xb mb hs W → ∀ v, hs[1]? = some v → v = .int .i64 1 := fun hs W h v hv => rk7_val h (k := 1) rfl hv
  have hv2 : ∀ hs W, RK7 wb xb mb hs W → ∀ v, hs[2]? = some v → v = .int .i64 2 := fun hs W h v hv => rk7_val h (k := 2) rfl hv
  have hv3 : ∀ hs W, RK7 wb xb mb hs W → ∀ v, hs[3]? = some v → v = .int .i64 3 := fun hs W h v hv => rk7_val h (k := 3) rfl hv
  refine wp_region_hs [31, 32, 33, 34, 35, 36, 37, 38, 39, 40, 41, 42, 4, 5, 6, 7] [2, 5, 8, 11] [33, 36, 39, 42] (fun d v => (match d with | 31 => v = .pointer (some ⟨xb, 0, none⟩) | 32 => v = .agg #[.int .i64 1, .int .i64 7, .string ByteArray.empty, .int .i64 0] | 34 => v = .pointer (some ⟨xb, 0, none⟩) | 35 => v = .agg #[.int .i64 0, .int .i64 0, .string ByteArray.empty, .int .i64 0] | 37 => v = .pointer (some ⟨xb, 0, none⟩) | 38 => v = .agg #[.int .i64 2, .int .i64 0, .string ⟨#[102]⟩, .int .i64 1] | 40 => v = .pointer (some ⟨xb, 0, none⟩) | 41 => v = .agg #[.int .i64 1, .int .i64 7, .string ByteArray.empty, .int .i64 0] | 4 => v = .int .i64 0 | 5 => v = .int .i64 1 | 6 => v = .int .i64 2 | 7 => v = .int .i64 3 | _ => True : Prop)) (RK7 wb xb mb) (by kernel_rfl) rfl (by kernel_rfl) (by kernel_rfl) (by kernel_rfl) (fun w h => ⟨rfl, by simp, v0, X0.turned0 h⟩) (fun hs w w' h ht => by obtain ⟨h1, h2, v, h3⟩ := h; exact ⟨h1, h2, v, h3.turned0 ht⟩) ?hs ?hQ
  case hs =>
    refine ⟨?s0, ?s1, ?s2, ?s3, ?s4, ?s5, ?s6, ?s7, ?s8, ?s9, ?s10, ?s11, ?s12, ?s13, ?s14, ?s15, trivial⟩
    case s0 =>
      refine fun hs => stepG_free [] [3] (by kernel_rfl) rfl ?_
      · intro ac W hT hI hO
        have h3 : ac.tmps.getD 3 undef = .pointer (some ⟨xb, 0, none⟩) := hO 3 (by simp)
        show Brings Try.prog (fun v w' => Turned (fun _ => False) W w' ∧ v = .pointer (some ⟨xb, 0, none⟩)) _
        simp only [execOp, Act.eval, h3]
        go_simp
        try exact ⟨Turned.refl _ _, rfl⟩
    case s1 =>
      refine fun hs => stepG_free [] [1] (by kernel_rfl) rfl ?_
      · intro ac W hT hI hO
        have h1 : ac.tmps.getD 1 undef = .pointer (some ⟨w8.heap.size, 0, none⟩) := hO 1 (by simp)
        show Brings Try.prog (fun v w' => Turned (fun _ => False) W w' ∧ v = .agg #[.int .i64 1, .int .i64 7, .string ByteArray.empty, .int .i64 0]) _
        obtain ⟨_, _, v, hX⟩ := hT; obtain ⟨c0, c1, c2, c3, c4, c5, c6, c7⟩ := HB.out W hX.turned
        simp only [execOp, Act.eval, h1]
        go_simp
        exact ⟨Turned.refl _ _, rfl⟩
    case s2 =>
      refine fun hs hlen => stepG_free [31, 32] [] (by kernel_rfl) rfl ?_
      · intro ac W hT hI hO
        have h31 : ac.tmps.getD 31 undef = .pointer (some ⟨xb, 0, none⟩) := hI 31 (by simp)
        have h32 : ac.tmps.getD 32 undef = .agg #[.int .i64 1, .int .i64 7, .string ByteArray.empty, .int .i64 0] := hI 32 (by simp)
        show Brings Try.prog (fun v w' => RK7 wb xb mb (hs ++ [v]) w') _
        obtain ⟨e, hle, v, hX⟩ := hT
        rw [hlen] at e hX
        subst e
        simp only [execOp, Act.eval, h31, h32]
        go_simp
        show Calls Try.prog 54 _ W _
        (with_reducible refine (addK1 hX).mono ?_)
        rintro e w' ⟨rfl, v', X', _⟩
        exact ⟨_, rfl, rfl, by simp [KV], v', X'⟩
    case s3 =>
      refine fun hs => stepG_free [] [3] (by kernel_rfl) rfl ?_
      · intro ac W hT hI hO
        have h3 : ac.tmps.getD 3 undef = .pointer (some ⟨xb, 0, none⟩) := hO 3 (by simp)
        show Brings Try.prog (fun v w' => Turned (fun _ => False) W w' ∧ v = .pointer (some ⟨xb, 0, none⟩)) _
        simp only [execOp, Act.eval, h3]
        go_simp
        try exact ⟨Turned.refl _ _, rfl⟩
    case s4 =>
      refine fun hs => stepG_free [] [] (by kernel_rfl) rfl ?_
      · intro ac W hT hI hO
        show Brings Try.prog (fun v w' => Turned (fun _ => False) W w' ∧ v = .agg #[.int .i64 0, .int .i64 0, .string ByteArray.empty, .int .i64 0]) _
        simp only [execOp, Act.eval]
        go_simp
        try exact ⟨Turned.refl _ _, rfl⟩
    case s5 =>
      refine fun hs hlen => stepG_free [34, 35] [] (by kernel_rfl) rfl ?_
      · intro ac W hT hI hO
        have h34 : ac.tmps.getD 34 undef = .pointer (some ⟨xb, 0, none⟩) := hI 34 (by simp)
        have h35 : ac.tmps.getD 35 undef = .agg #[.int .i64 0, .int .i64 0, .string ByteArray.empty, .int .i64 0] := hI 35 (by simp)
        show Brings Try.prog (fun v w' => RK7 wb xb mb (hs ++ [v]) w') _
        obtain ⟨e, hle, v, hX⟩ := hT
        rw [hlen] at e hX
        subst e
        simp only [execOp, Act.eval, h34, h35]
        go_simp
        show Calls Try.prog 54 _ W _
        (with_reducible refine (addK2 hX).mono ?_)
        rintro e w' ⟨rfl, v', X', _⟩
        exact ⟨_, rfl, rfl, by simp [KV], v', X'⟩
    case s6 =>
      refine fun hs => stepG_free [] [3] (by kernel_rfl) rfl ?_
      · intro ac W hT hI hO
        have h3 : ac.tmps.getD 3 undef = .pointer (some ⟨xb, 0, none⟩) := hO 3 (by simp)
        show Brings Try.prog (fun v w' => Turned (fun _ => False) W w' ∧ v = .pointer (some ⟨xb, 0, none⟩)) _
        simp only [execOp, Act.eval, h3]
        go_simp
        try exact ⟨Turned.refl _ _, rfl⟩
    case s7 =>
      refine fun hs => stepG_free [] [2] (by kernel_rfl) rfl ?_
      · intro ac W hT hI hO
        have h2 : ac.tmps.getD 2 undef = .pointer (some ⟨(w8.heap.size + 1), 0, none⟩) := hO 2 (by simp)
        show Brings Try.prog (fun v w' => Turned (fun _ => False) W w' ∧ v = .agg #[.int .i64 2, .int .i64 0, .string ⟨#[102]⟩, .int .i64 1]) _
        obtain ⟨_, _, v, hX⟩ := hT; obtain ⟨c0, c1, c2, c3, c4, c5, c6, c7⟩ := HB.out W hX.turned
        simp only [execOp, Act.eval, h2]
        go_simp
        exact ⟨Turned.refl _ _, rfl⟩
    case s8 =>
      refine fun hs hlen => stepG_free [37, 38] [] (by kernel_rfl) rfl ?_
      · intro ac W hT hI hO
        have h37 : ac.tmps.getD 37 undef = .pointer (some ⟨xb, 0, none⟩) := hI 37 (by simp)
        have h38 : ac.tmps.getD 38 undef = .agg #[.int .i64 2, .int .i64 0, .string ⟨#[102]⟩, .int .i64 1] := hI 38 (by simp)
        show Brings Try.prog (fun v w' => RK7 wb xb mb (hs ++ [v]) w') _
        obtain ⟨e, hle, v, hX⟩ := hT
        rw [hlen] at e hX
        subst e
        simp only [execOp, Act.eval, h37, h38]
        go_simp
        show Calls Try.prog 54 _ W _
        (with_reducible refine (addK3 hX).mono ?_)
        rintro e w' ⟨rfl, v', X', _⟩
        exact ⟨_, rfl, rfl, by simp [KV], v', X'⟩
    case s9 =>
      refine fun hs => stepG_free [] [3] (by kernel_rfl) rfl ?_
      · intro ac W hT hI hO
        have h3 : ac.tmps.getD 3 undef = .pointer (some ⟨xb, 0, none⟩) := hO 3 (by simp)
        show Brings Try.prog (fun v w' => Turned (fun _ => False) W w' ∧ v = .pointer (some ⟨xb, 0, none⟩)) _
        simp only [execOp, Act.eval, h3]
        go_simp
        try exact ⟨Turned.refl _ _, rfl⟩
    case s10 =>
      refine fun hs => stepG_free [] [1] (by kernel_rfl) rfl ?_
      · intro ac W hT hI hO
        have h1 : ac.tmps.getD 1 undef = .pointer (some ⟨w8.heap.size, 0, none⟩) := hO 1 (by simp)
        show Brings Try.prog (fun v w' => Turned (fun _ => False) W w' ∧ v = .agg #[.int .i64 1, .int .i64 7, .string ByteArray.empty, .int .i64 0]) _
        obtain ⟨_, _, v, hX⟩ := hT; obtain ⟨c0, c1, c2, c3, c4, c5, c6, c7⟩ := HB.out W hX.turned
        simp only [execOp, Act.eval, h1]
        go_simp
        exact ⟨Turned.refl _ _, rfl⟩
    case s11 =>
      refine fun hs hlen => stepG_free [40, 41] [] (by kernel_rfl) rfl ?_
      · intro ac W hT hI hO
        have h40 : ac.tmps.getD 40 undef = .pointer (some ⟨xb, 0, none⟩) := hI 40 (by simp)
        have h41 : ac.tmps.getD 41 undef = .agg #[.int .i64 1, .int .i64 7, .string ByteArray.empty, .int .i64 0] := hI 41 (by simp)
        show Brings Try.prog (fun v w' => RK7 wb xb mb (hs ++ [v]) w') _
        obtain ⟨e, hle, v, hX⟩ := hT
        rw [hlen] at e hX
        subst e
        simp only [execOp, Act.eval, h40, h41]
        go_simp
        show Calls Try.prog 54 _ W _
        (with_reducible refine (addK4 hX).mono ?_)
        rintro e w' ⟨rfl, v', X', _⟩
        exact ⟨_, rfl, rfl, by simp [KV], v', X'⟩
    case s12 =>
      refine fun hs => stepG_free [33] [] (by kernel_rfl) rfl ?_
      · intro ac W hT hI hO
        have h33 : hs[0]? = some (ac.tmps.getD 33 undef) := hI 33 (by simp)
        replace h33 : ac.tmps.getD 33 undef = .int .i64 0 := hv0 hs W hT _ h33
        show Brings Try.prog (fun v w' => Turned (fun _ => False) W w' ∧ v = .int .i64 0) _
        simp only [execOp, Act.eval, h33]
        go_simp
        try exact ⟨Turned.refl _ _, rfl⟩
    case s13 =>
      refine fun hs => stepG_free [36] [] (by kernel_rfl) rfl ?_
      · intro ac W hT hI hO
        have h36 : hs[1]? = some (ac.tmps.getD 36 undef) := hI 36 (by simp)
        replace h36 : ac.tmps.getD 36 undef = .int .i64 1 := hv1 hs W hT _ h36
        show Brings Try.prog (fun v w' => Turned (fun _ => False) W w' ∧ v = .int .i64 1) _
        simp only [execOp, Act.eval, h36]
        go_simp
        try exact ⟨Turned.refl _ _, rfl⟩
    case s14 =>
      refine fun hs => stepG_free [39] [] (by kernel_rfl) rfl ?_
      · intro ac W hT hI hO
        have h39 : hs[2]? = some (ac.tmps.getD 39 undef) := hI 39 (by simp)
        replace h39 : ac.tmps.getD 39 undef = .int .i64 2 := hv2 hs W hT _ h39
        show Brings Try.prog (fun v w' => Turned (fun _ => False) W w' ∧ v = .int .i64 2) _
        simp only [execOp, Act.eval, h39]
        go_simp
        try exact ⟨Turned.refl _ _, rfl⟩
    case s15 =>
      refine fun hs => stepG_free [42] [] (by kernel_rfl) rfl ?_
      · intro ac W hT hI hO
        have h42 : hs[3]? = some (ac.tmps.getD 42 undef) := hI 42 (by simp)
        replace h42 : ac.tmps.getD 42 undef = .int .i64 3 := hv3 hs W hT _ h42
        show Brings Try.prog (fun v w' => Turned (fun _ => False) W w' ∧ v = .int .i64 3) _
        simp only [execOp, Act.eval, h42]
        go_simp
        try exact ⟨Turned.refl _ _, rfl⟩
  case hQ =>
    intro hs vs w24 hlen hR hV
    obtain ⟨v4, X4⟩ := rk7_end hlen hR
    have q4 : vs 4 = .int .i64 0 := hV 4 (by simp)
    have q5 : vs 5 = .int .i64 1 := hV 5 (by simp)
    have q6 : vs 6 = .int .i64 2 := hV 6 (by simp)
    have q7 : vs 7 = .int .i64 3 := hV 7 (by simp)
    simp only [List.foldl_cons, List.foldl_nil, List.setIfInBounds_toArray, List.set_cons_zero, List.set_cons_succ, q4, q5, q6, q7]
    clear hV hR hlen q4 q5 q6 q7 hv0 hv1 hv2 hv3 hs
    obtain ⟨c0, c1, c2, c3, c4, c5, c6, c7⟩ := HB.out _ X4.turned
    go_wp2_with (first
      | (go_at_call 55; (with_reducible refine (dropK3 X32).mono ?_); rintro e w33 ⟨rfl, X33, O33⟩; obtain ⟨c0, c1, c2, c3, c4, c5, c6, c7⟩ := HB.out _ X33.turned)
      | (go_at_call 55; (with_reducible refine (dropK2 X31).mono ?_); rintro e w32 ⟨rfl, X32, O32⟩; obtain ⟨c0, c1, c2, c3, c4, c5, c6, c7⟩ := HB.out _ X32.turned)
      | (go_at_call 55; (with_reducible refine (dropK1 X8).mono ?_); rintro e w31 ⟨rfl, X31, O31⟩; obtain ⟨c0, c1, c2, c3, c4, c5, c6, c7⟩ := HB.out _ X31.turned)
      | (go_at_call 59; (with_reducible refine (pickK1 X4).mono ?_); rintro e w25 ⟨r8, rfl, R8, X8, T8⟩; obtain ⟨c0, c1, c2, c3, c4, c5, c6, c7⟩ := HB.out _ X8.turned))
    have hqa : ∀ W, (binOp .eql 35 (.agg #[.int .i64 1, .int .i64 7, .string ByteArray.empty, .int .i64 0]) (.agg #[.int .i64 1, .int .i64 7, .string ⟨#[]⟩, .int .i64 0])).run Try.prog W = .ok (.bool true) W := fun W => key_eql ⟨1, 7, ByteArray.empty, 0⟩ ⟨1, 7, ByteArray.empty, 0⟩ W
    have hqb : ∀ W, (binOp .eql 35 (.agg #[.int .i64 2, .int .i64 0, .string ⟨#[102]⟩, .int .i64 1]) (.agg #[.int .i64 2, .int .i64 0, .string ⟨#[102]⟩, .int .i64 1])).run Try.prog W = .ok (.bool true) W := fun W => key_eql ⟨2, 0, ⟨#[102]⟩, 1⟩ ⟨2, 0, ⟨#[102]⟩, 1⟩ W
    have hqz : ∀ W, (binOp .eql 35 (.agg #[.int .i64 0, .int .i64 0, .string ByteArray.empty, .int .i64 0]) (.agg #[.int .i64 0, .int .i64 0, .string ⟨#[]⟩, .int .i64 0])).run Try.prog W = .ok (.bool true) W := fun W => key_eql ⟨0, 0, ByteArray.empty, 0⟩ ⟨0, 0, ByteArray.empty, 0⟩ W
    go_wp2_with (first
      | (go_at_call 43; have := U51; refine (may_lit 2 0 ⟨#[102]⟩ 1 2 0 ⟨#[102]⟩ 1 true (by decide) _).mono ?_; rintro e w52 ⟨rfl, T52⟩; have U52 := U51.trans T52)
      | (go_at_call 43; have := U50; refine (may_lit 1 7 ByteArray.empty 0 0 0 ByteArray.empty 0 true (by decide) _).mono ?_; rintro e w51 ⟨rfl, T51⟩; have U51 := U50.trans T51; obtain ⟨c0, c1, c2, c3, c4, c5, c6, c7⟩ := HB.out _  (T36.trans U51))
      | (go_at_call 43; have := U49; refine (may_lit 1 7 ByteArray.empty 0 2 0 ⟨#[102]⟩ 1 false (by decide) _).mono ?_; rintro e w50 ⟨rfl, T50⟩; have U50 := U49.trans T50; obtain ⟨c0, c1, c2, c3, c4, c5, c6, c7⟩ := HB.out _  (T36.trans U50))
      | (go_at_call 58; have := U48; refine (intsK true (by decide) (P13.row.turned0 (U48.alloc _)) (row_of [1, 2, 3] _ _ 3 _ rfl rfl (by decide))).mono ?_; rintro e w49 ⟨rfl, T49⟩; have U49 := (U48.alloc _).trans T49; obtain ⟨c0, c1, c2, c3, c4, c5, c6, c7⟩ := HB.out _  (T36.trans U49))
      | (go_at_call 58; have := U47; refine (intsK true (by decide) (P12.row.turned0 (U47.alloc _)) (row_of [1, 3] _ _ 2 _ rfl rfl (by decide))).mono ?_; rintro e w48 ⟨rfl, T48⟩; have U48 := (U47.alloc _).trans T48)
      | (go_at_call 58; refine (intsK true (by decide) (P8.row.turned0 (U46.alloc _)) (row_of [0, 1, 3] _ _ 3 _ rfl rfl (by decide))).mono ?_; rintro e w47 ⟨rfl, T47⟩; have U47 := (U46.alloc _).trans T47)
      | (go_at_call 42; have := U45; refine (of_lit (t := tP3 a45 c45) i45 (tP3_slim _ _) 0 0 ByteArray.empty 0 (tP3_key _ _)).mono ?_; rintro e w46 ⟨rfl, T46⟩; have U46 := U45.trans T46)
      | (go_at_call 42; have := U42; refine (of_lit (t := leaf 9 0 ByteArray.empty) (leaf_in _ _ _ (i64_lit _ (by omega)) (i64_lit _ (by omega)) (by unfold maxLen; decide)) (leaf_slim _ _ _) 0 0 ByteArray.empty 0 rfl).mono ?_; rintro e w43 ⟨rfl, T43⟩; have U43 := U42.trans T43)
      | (go_at_call 42; refine (of_lit (t := leaf 2 0 ⟨#[112]⟩) i41 (leaf_slim _ _ _) 0 0 ByteArray.empty 0 rfl).mono ?_; rintro e w42 ⟨rfl, T42⟩; have U42 := T41.trans T42)
      | (go_at_call 37; refine (compV ⟨#[112]⟩ (by unfold maxLen; decide) 1 (by decide) rfl (sl_made (l := [leaf 0 3 ByteArray.empty]) ⟨i44, trivial⟩ 1 (by decide) rfl _ rfl)).mono ?_; rintro e w45 ⟨a45, c45, rfl, i45, T45⟩; have U45 := (U44.alloc _).trans T45)
      | (go_at_call 62; refine (varV 3 (i64_lit _ (by omega)) _).mono ?_; rintro e w44 ⟨rfl, i44, T44⟩; have U44 := U43.trans T44)
      | (go_at_call 63; refine (atomV ⟨#[112]⟩ (by unfold maxLen; decide) _).mono ?_; rintro e w41 ⟨rfl, i41, T41⟩)
      | (go_at_call 59; have hX := X34; refine (pickK3 hX).mono ?_; rintro e w35 ⟨r13, rfl, R13, X35, T35⟩; obtain ⟨c0, c1, c2, c3, c4, c5, c6, c7⟩ := HB.out _  X35.turned)
      | (go_at_call 59; have hX := X33; refine (pickK2 hX).mono ?_; rintro e w34 ⟨r12, rfl, R12, X34, T34⟩; obtain ⟨c0, c1, c2, c3, c4, c5, c6, c7⟩ := HB.out _  X34.turned)
      | (go_at_call 54; have hX := X35; refine (addK5 hX).mono ?_; rintro e w36 ⟨rfl, v5, X36, O36⟩; have P8 := O36 _ _ (((O33 _ _ (O32 _ _ (O31 _ _ R8))).turned0 T34).turned0 T35); have P12 := O36 _ _ (R12.turned0 T35); have P13 := O36 _ _ R13; have T36 := X36.turned; obtain ⟨c0, c1, c2, c3, c4, c5, c6, c7⟩ := HB.out _  T36; clear O36))
    go_ret
    exact ⟨rfl, T10.trans (T36.trans U52)⟩
end Go.Proofs.Ytoihjobdfjajfaa
