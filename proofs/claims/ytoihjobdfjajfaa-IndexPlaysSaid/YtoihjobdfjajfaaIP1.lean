/- IndexPlays: the document's key and May; rows of bools; a list of acts. -/
import Derived.Test.YtoihjobdfjajfaaIdxAll
import Derived.Test.YtoihjobdfjajfaaOpens2
namespace Go.Proofs.Ytoihjobdfjajfaa
set_option linter.unusedVariables false
set_option linter.unusedSimpArgs false
open Go.RowKit Go.Maps
attribute [local go_sem ↓] Go.wp_at_zero Go.wp_at_succ

theorem fields63 : Try.prog.underlying 63 = some (.struct (Try.prog.fieldsOf 63)) := by unfold Program.fieldsOf; rw [Try.underlying63]
theorem stood63 : Try.prog.stoodInHeld 63 = false := by kernel_rfl
theorem key_eql63 (a b : Key) (W : World) : (binOp .eql 63 (.agg #[.int .i64 a.kind, .int .i64 a.n, .string a.name, .int .i64 a.arity]) (.agg #[.int .i64 b.kind, .int .i64 b.n, .string b.name, .int .i64 b.arity])).run Try.prog W = .ok (.bool (decide (a = b))) W := by
  rw [run_eql_struct, show (10000 : Nat) = 9999 + 1 from rfl, run_equalIn_agg _ _ _ _ _ fields63 stood63]
  unfold Program.fieldsOf
  rw [Try.underlying63]
  have hb := bytes_eq a.name b.name
  simp [go_sem, Try.underlying3, Try.underlying2, Try.underlying9, key_ext, hb]
  by_cases h1 : a.kind = b.kind <;> by_cases h2 : a.n = b.n <;> by_cases h3 : a.name = b.name <;> by_cases h4 : a.arity = b.arity <;> simp [h1, h2, h3, h4]

set_option maxRecDepth 100000 in
set_option maxHeartbeats 800000 in
theorem mayr56 (a b : Key) (w : World) : Calls Try.prog 56 #[a.val, b.val] w fun e w' => e = .returned (.bool (mayB a b)) ∧ Turned (fun _ => False) w w' := by
  have hq := key_eql63 a b
  have HQ := Lib.hid hq
  have T := ((Turned.refl (fun _ => False) w).alloc (.cells #[.int .i64 a.kind, .int .i64 a.n, .string a.name, .int .i64 a.arity] 63)).alloc (.cells #[.int .i64 b.kind, .int .i64 b.n, .string b.name, .int .i64 b.arity] 63)
  have HT := Lib.hid T
  clear hq T
  unfold Key.val
  by_cases h0 : a.kind = 0
  · have k0 : (a.kind == 0) = true := by simp [h0]
    have HR : Hid (mayB a b = true) := by show _ = _; unfold mayB; simp [h0]
    clear h0
    go_enter Try.func56, Try.ntmps56
    go_wp2_with fail
    go_ret
    exact ⟨ret_bool HR.out.symm, HT.out⟩
  · have k0 : (a.kind == 0) = false := by simp [h0]
    by_cases h1 : b.kind = 0
    · have k1 : (b.kind == 0) = true := by simp [h1]
      have HR : Hid (mayB a b = true) := by show _ = _; unfold mayB; simp [h1]
      clear h0 h1
      go_enter Try.func56, Try.ntmps56
      go_wp2_with fail
      go_ret
      exact ⟨ret_bool HR.out.symm, HT.out⟩
    · have k1 : (b.kind == 0) = false := by simp [h1]
      have HR : Hid (mayB a b = decide (a = b)) := by show _ = _; unfold mayB; simp [h0, h1]
      clear h0 h1
      have hq := HQ.out
      go_enter Try.func56, Try.ntmps56
      go_wp2_with fail
      go_ret
      exact ⟨ret_bool HR.out.symm, HT.out⟩

set_option maxRecDepth 100000 in
set_option maxHeartbeats 800000 in
theorem key57 (k : Key) (w : World) : Calls Try.prog 57 #[k.val] w fun e w' => e = .returned k.val ∧ Turned (fun _ => False) w w' := by
  have h2 := heap_alloc2_new w (.cells #[.int .i64 k.kind, .int .i64 k.n, .string k.name, .int .i64 k.arity] 35) (.cells #[.int .i64 k.kind, .int .i64 k.n, .string k.name, .int .i64 k.arity] 63)
  have H2 := Lib.hid h2
  clear h2
  unfold Key.val
  go_enter Try.func57, Try.ntmps57
  go_wp2_with fail
  refine bodyPost_ret (v := .agg #[.int .i64 k.kind, .int .i64 k.n, .string k.name, .int .i64 k.arity]) (results_cell_row Try.results57 _ _ (w.heap.size + 1) 63 _ (0, 0) _ rfl H2.out Try.underlying63 rfl (by kernel_rfl)) rfl ⟨rfl, ((Turned.refl _ w).alloc _).alloc _⟩

/-- A list of acts. -/
structure Act2 where
  op : Int
  i : Int
  k : Key
def Act2.cells (a : Act2) : List Value := [.int .i64 a.op, .int .i64 a.i, .int .i64 a.k.kind, .int .i64 a.k.n, .string a.k.name, .int .i64 a.k.arity]
structure ASl (w : World) (a : Option Addr) (c : Nat) (l : List Act2) : Prop where
  none_ : a = none → l.length = 0 ∧ c = 0
  lies : 0 < l.length → ∃ b o, a = some ⟨b, o, none⟩ ∧ ∀ (i : Nat) x, l[i]? = some x → ∀ (j : Nat) u, x.cells[j]? = some u → w.cell? ⟨b, o + (i * 6 + j), none⟩ = some u
  cap : l.length ≤ c
  max : c ≤ 9223372036854775807
  wf : ∀ x ∈ l, I64 x.i
theorem ASl.turned0 {w w' : World} {a : Option Addr} {c : Nat} {l : List Act2} (h : ASl w a c l) (ht : Turned (fun _ => False) w w') : ASl w' a c l := by
  refine ⟨h.none_, fun hp => ?_, h.cap, h.max, h.wf⟩
  obtain ⟨b, o, he, hc⟩ := h.lies hp
  exact ⟨b, o, he, fun i x hx j u hu => ht.cell (hc i x hx j u hu) (fun f => f)⟩
theorem ASl.at {w : World} {b o c : Nat} {l : List Act2} (h : ASl w (some ⟨b, o, none⟩) c l) {i : Nat} {x : Act2} (hi : l[i]? = some x) :
    w.cell? ⟨b, o + i * 6, none⟩ = some (.int .i64 x.op) ∧ w.cell? ⟨b, o + i * 6 + 1, none⟩ = some (.int .i64 x.i) ∧ w.cell? ⟨b, o + i * 6 + 2, none⟩ = some (.int .i64 x.k.kind) ∧ w.cell? ⟨b, o + i * 6 + 3, none⟩ = some (.int .i64 x.k.n) ∧ w.cell? ⟨b, o + i * 6 + 4, none⟩ = some (.string x.k.name) ∧ w.cell? ⟨b, o + i * 6 + 5, none⟩ = some (.int .i64 x.k.arity) := by
  obtain ⟨b', o', e, hc⟩ := h.lies (by have := (List.getElem?_eq_some_iff.1 hi).1; omega)
  injection e with e
  injection e with e1 e2
  subst e1 e2
  have hh := hc i x hi
  refine ⟨hh 0 _ rfl, ?_, ?_, ?_, ?_, ?_⟩
  all_goals rw [Nat.add_assoc]
  · exact hh 1 _ rfl
  · exact hh 2 _ rfl
  · exact hh 3 _ rfl
  · exact hh 4 _ rfl
  · exact hh 5 _ rfl

/-- A row of one-cell elements, one of them stored anew. -/
theorem Row.set1 {w : World} {e : TypeId} {v : Value} {n g cap : Nat} {xs : List Value} (h : Row w e 1 v n xs) (hv : v = .slice (some ⟨g, 0, none⟩) n cap) {j : Nat} (hj : j < n) (u : Value) : Row (w.setCell ⟨g, j, none⟩ u) e 1 v n (xs.set j u) := by
  refine ⟨by rw [List.length_set]; exact h.1, ?_⟩
  rcases h.2 with ⟨rfl, _⟩ | ⟨g', cap', cur, rfl, hgg, h1, h2, h3, htake⟩
  · cases hv
  · injection hv with hv _ hc; injection hv with hv; injection hv with hv; subst hv hc
    have hs := heap_setCell_same w g' j cur e u hgg
    refine .inr ⟨g', cap', _, rfl, hs, h1, h2, by simpa using h3, ?_⟩
    rw [Array.toList_setIfInBounds, List.take_set, htake]

/-- Whether each of n is still there. -/
def ths (n : Nat) (gone : List Int) : List Value := (List.range n).map fun i : Nat => Value.bool (!decide ((i : Int) ∈ gone))
theorem ths_length (n : Nat) (gone : List Int) : (ths n gone).length = n := by simp [ths]
theorem ths_at {n : Nat} {gone : List Int} {i : Nat} (h : i < n) : (ths n gone)[i]? = some (.bool (!decide ((i : Int) ∈ gone))) := by simp [ths, h]
theorem ths_snoc {n : Nat} {gone : List Int} (h : ∀ g ∈ gone, g < (n : Int)) : ths (n + 1) gone = ths n gone ++ [.bool true] := by
  unfold ths
  rw [List.range_succ, List.map_append]
  congr 1
  have : (n : Int) ∉ gone := fun hm => by have := h _ hm; omega
  simp [this]
theorem ths_drop {n : Nat} {gone : List Int} {m : Nat} (h : m < n) : ths n (gone ++ [(m : Int)]) = (ths n gone).set m (.bool false) := by
  apply List.ext_getElem?
  intro i
  rw [List.getElem?_set]
  by_cases hi : i < n
  · rw [ths_at hi]
    by_cases e : m = i
    · subst e; simp [ths_length, h]
    · rw [if_neg e, ths_at hi]
      have : ¬ (i : Int) = (m : Int) := by omega
      simp [this]
  · have h1 : (ths n (gone ++ [(m : Int)]))[i]? = none := List.getElem?_eq_none (by rw [ths_length]; omega)
    have h2 : (ths n gone)[i]? = none := List.getElem?_eq_none (by rw [ths_length]; omega)
    rw [h1, h2, if_neg (by omega)]
end Go.Proofs.Ytoihjobdfjajfaa
