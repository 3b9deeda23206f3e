/- Closed terms: the makers once more, with what comes back written out; sizarlaw7's awake. -/
import Derived.Test.YtoihjobdfjajfaaNums
namespace Go.Proofs.Ytoihjobdfjajfaa
set_option linter.unusedVariables false
set_option linter.unusedSimpArgs false
open Go.RowKit

def leaf (k n : Int) (s : ByteArray) : LT := .mk k n s (none, 0) []
theorem varV (n : Int) (hn : I64 n) (w : World) : Calls Try.prog 62 #[.int .i64 n] w fun e w' => e = .returned (.agg #[.int .i64 0, .int .i64 n, .string ByteArray.empty, .slice none 0 0]) ∧ LT.In (fun _ => True) w' (leaf 0 n ByteArray.empty) ∧ Turned (fun _ => False) w w' :=
  (var62 n hn w).mono fun e w' ⟨h1, h2, h3⟩ => ⟨h1, h2 _, h3⟩
theorem intV (n : Int) (hn : I64 n) (w : World) : Calls Try.prog 61 #[.int .i64 n] w fun e w' => e = .returned (.agg #[.int .i64 1, .int .i64 n, .string ByteArray.empty, .slice none 0 0]) ∧ LT.In (fun _ => True) w' (leaf 1 n ByteArray.empty) ∧ Turned (fun _ => False) w w' :=
  (int61 n hn w).mono fun e w' ⟨h1, h2, h3⟩ => ⟨h1, h2 _, h3⟩
theorem atomV (s : ByteArray) (hs : s.size ≤ maxLen) (w : World) : Calls Try.prog 63 #[.string s] w fun e w' => e = .returned (.agg #[.int .i64 2, .int .i64 0, .string s, .slice none 0 0]) ∧ LT.In (fun _ => True) w' (leaf 2 0 s) ∧ Turned (fun _ => False) w w' :=
  (atom63 s hs w).mono fun e w' ⟨h1, h2, h3⟩ => ⟨h1, h2 _, h3⟩
/-- A slice of terms that was just laid. -/
theorem sl_made {w : World} {l : List LT} (h : LT.Ins (fun _ => True) w l) (n : Nat) (hl : n ≤ 1000) (hn : l.length = n) (cs : Array Value) (hcs : cs = (l.flatMap LT.cells).toArray) : LT.Sl (fun _ => True) (w.alloc (.cells cs 27)) (some ⟨w.heap.size, 0, none⟩) n l := by
  subst hn hcs
  have hr := Row.made w 27 4 (l.flatMap LT.cells).toArray l.length (by rw [List.size_toArray, LT.flat_length]) (by unfold maxLen; omega)
  exact (LT.Sl.of_row (p := fun _ => True) hr (fun _ _ => trivial) (LT.Ins.turned0 h ((Turned.refl _ w).alloc _))).2
theorem compV {w : World} {a : Option Addr} {c : Nat} {l : List LT} (s : ByteArray) (hs : s.size ≤ maxLen) (n : Nat) (hl : n ≤ 65536) (hn : l.length = n) (h : LT.Sl (fun _ => True) w a c l) :
    Calls Try.prog 37 #[.string s, .slice a n c] w fun e w' => ∃ a' c', e = .returned (.agg #[.int .i64 2, .int .i64 0, .string s, .slice a' n c']) ∧ LT.In (fun _ => True) w' (.mk 2 0 s (a', c') l) ∧ Turned (fun _ => False) w w' := by
  subst hn
  refine (comp37 s hs h hl).mono ?_
  rintro e w' ⟨d, rfl, hi, ht⟩
  exact ⟨d.1, d.2, rfl, hi.mono (fun _ _ _ => trivial), ht⟩

/-- The four cells of a box that was just laid, in any world behind. -/
theorem boxAt {w : World} {a b c d : Value} {W : World} (h : Turned (fun _ => False) (w.alloc (.cells #[a, b, c, d] 27)) W) :
    W.cell? ⟨w.heap.size, 0, none⟩ = some a ∧ W.cell? ⟨w.heap.size, 1, none⟩ = some b ∧ W.cell? ⟨w.heap.size, 2, none⟩ = some c ∧ W.cell? ⟨w.heap.size, 3, none⟩ = some d ∧ w.heap.size < W.heap.size := by
  obtain ⟨hb, hl⟩ := box4 h
  obtain ⟨c0, c1, c2, c3, _⟩ := cells4 hb
  exact ⟨c0, c1, c2, c3, hl⟩
def tAw (a3 : Option Addr) (c3 : Nat) (a4 : Option Addr) (c4 : Nat) : LT := .mk 2 0 ⟨#[102]⟩ (a4, c4) [leaf 0 3 ByteArray.empty, .mk 2 0 ⟨#[103]⟩ (a3, c3) [leaf 1 1 ByteArray.empty]]
theorem tAw_good (a3 : Option Addr) (c3 : Nat) (a4 : Option Addr) (c4 : Nat) : goodB (tAw a3 c3 a4 c4) = true := by kernel_rfl
theorem tAw_slim (a3 : Option Addr) (c3 : Nat) (a4 : Option Addr) (c4 : Nat) : slim (tAw a3 c3 a4 c4) := by
  intro x hx
  simp [tAw, leaf, Tm.flat, Tm.flats] at hx
  rcases hx with rfl | rfl | rfl | rfl <;> simp [Tm.args]
theorem tAw_vars (a3 : Option Addr) (c3 : Nat) (a4 : Option Addr) (c4 : Nat) : varsB (tAw a3 c3 a4 c4) = [3] := by kernel_rfl

set_option maxRecDepth 100000 in
set_option maxHeartbeats 1600000 in
theorem awake32 (w : World) : Calls Try.prog 32 #[] w fun e w' => e = .returned (.bool true) ∧ Turned (fun _ => False) w w' := by
  go_enter Try.func32, Try.ntmps32
  go_wp2_with (first
    | (go_at_call 62; refine (varV 3 (i64_lit _ (by omega)) _).mono ?_; rintro e w1 ⟨rfl, i1, T1⟩)
    | (go_at_call 61; refine (intV 1 (i64_lit _ (by omega)) _).mono ?_; rintro e w2 ⟨rfl, i2, T2⟩)
    | (go_at_call_of 37 (Value.string ⟨#[103]⟩); refine (compV ⟨#[103]⟩ (by unfold maxLen; decide) 1 (by decide) rfl (sl_made (l := [leaf 1 1 ByteArray.empty]) ⟨i2, trivial⟩ 1 (by decide) rfl _ rfl)).mono ?_; rintro e w3 ⟨a3, c3, rfl, i3, T3⟩)
    | (go_at_call_of 37 (Value.string ⟨#[102]⟩); refine (compV ⟨#[102]⟩ (by unfold maxLen; decide) 2 (by decide) rfl (sl_made (l := [leaf 0 3 ByteArray.empty, .mk 2 0 ⟨#[103]⟩ (a3, c3) [leaf 1 1 ByteArray.empty]]) ⟨i1.turned0 (T2.trans (((Turned.refl _ w2).alloc _).trans T3)), i3, trivial⟩ 2 (by decide) rfl _ rfl)).mono ?_; rintro e w4 ⟨a4, c4, rfl, i4, T4⟩)
    | (go_at_call 35; have T5 := (Turned.refl (fun _ => False) w4).alloc (.cells #[.int .i64 2, .int .i64 0, .string ⟨#[102]⟩, .slice a4 2 c4] 27); refine (size35 (t := tAw a3 c3 a4 c4) (i4.turned0 T5) (tAw_slim _ _ _ _)).mono ?_; rintro e w6 ⟨rfl, T6⟩; obtain ⟨b0, b1, b2, b3, bl⟩ := boxAt T6)
    | (go_at_call 36; refine (depth36 (t := tAw a3 c3 a4 c4) (i4.turned0 (T5.trans T6))).mono ?_; rintro e w7 ⟨rfl, T7⟩; obtain ⟨d0, d1, d2, d3, dl⟩ := boxAt (T6.trans T7))
    | (go_at_call 38; refine (good38 (t := tAw a3 c3 a4 c4) (i4.turned0 (T5.trans (T6.trans T7))) (tAw_slim _ _ _ _)).mono ?_; rintro e w8 ⟨rfl, T8⟩; obtain ⟨f0, f1, f2, f3, fl⟩ := boxAt (T6.trans (T7.trans T8)); have hg8 := tAw_good a3 c3 a4 c4)
    | (go_at_call 34; refine (vars34 (t := tAw a3 c3 a4 c4) (i4.turned0 (T5.trans (T6.trans (T7.trans T8)))) (tAw_slim _ _ _ _)).mono ?_; rintro e w9 ⟨v9, rfl, r9, n9, T9⟩; rw [tAw_vars] at r9; have HR9 := Lib.hid r9; clear r9)
    | (go_at_call 39; refine (nums39 (xs := [3]) (ys := [3]) (HR9.out.alloc _) (Row.made w9 2 1 #[.int .i64 3] 1 rfl (by decide))).mono ?_; rintro e w10 ⟨rfl, T10⟩))
  go_ret
  refine ⟨rfl, ?_⟩
  exact T1.trans (T2.trans (((Turned.refl _ w2).alloc _).trans (T3.trans (((Turned.refl _ w3).alloc _).trans (T4.trans (T5.trans (T6.trans (T7.trans (T8.trans (T9.trans (((Turned.refl _ w9).alloc _).trans T10)))))))))))
end Go.Proofs.Ytoihjobdfjajfaa
