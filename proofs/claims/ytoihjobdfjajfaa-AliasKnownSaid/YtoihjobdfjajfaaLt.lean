/- Terms in memory: where the args lie, what each cell holds. No program in sight. -/
import Derived.Test.YtoihjobdfjajfaaBase
import Derived.Test.YtoihjobdfjajfaaTm
namespace Go.Proofs.Ytoihjobdfjajfaa
set_option linter.unusedVariables false
set_option linter.unusedSimpArgs false
open Go.RowKit

/-- It fits an int64. -/
def I64 (n : Int) : Prop := -9223372036854775808 ≤ n ∧ n ≤ 9223372036854775807
theorem I64.wf {n : Int} (h : I64 n) : (Lit.int .i64 n).wf = true := WalkArith.wf_i64 h

/-- A term with a note of where its args lie: the slice's address and its capacity. -/
abbrev LT := Tm (Option Addr × Nat)
namespace LT
/-- A term as a value. -/
def sl (t : LT) : Value := match t with | .mk _ _ _ e as => .slice e.1 as.length e.2
def cells (t : LT) : List Value := match t with | .mk k n s e as => [.int .i64 k, .int .i64 n, .string s, .slice e.1 as.length e.2]
def val (t : LT) : Value := match t with | .mk k n s e as => .agg #[.int .i64 k, .int .i64 n, .string s, .slice e.1 as.length e.2]
theorem cells_length (t : LT) : (cells t).length = 4 := by cases t; rfl
theorem cells_one (t : LT) : ∀ u ∈ cells t, u.oneCell' = true := by
  cases t with | mk k n s e as =>
  intro u hu
  simp only [cells, List.mem_cons, List.not_mem_nil, or_false] at hu
  rcases hu with rfl | rfl | rfl | rfl <;> rfl
theorem flat_length (l : List LT) : (l.flatMap cells).length = l.length * 4 := by
  induction l with
  | nil => rfl
  | cons x l ih => rw [List.flatMap_cons, List.length_append, cells_length, ih, List.length_cons]; omega
theorem flat_one (l : List LT) : ∀ u ∈ l.flatMap cells, u.oneCell' = true := by
  intro u hu
  obtain ⟨x, _, hx⟩ := List.mem_flatMap.1 hu
  exact cells_one x u hx
theorem flat_at {l : List LT} {i : Nat} {x : LT} (h : l[i]? = some x) (j : Nat) (hj : j < 4) : (l.flatMap cells)[i * 4 + j]? = (cells x)[j]? := by
  induction l generalizing i with
  | nil => simp at h
  | cons y l ih =>
    rw [List.flatMap_cons]
    cases i with
    | zero =>
      simp at h; subst h
      rw [List.getElem?_append_left (by rw [cells_length]; omega), Nat.zero_mul, Nat.zero_add]
    | succ i =>
      simp at h
      rw [List.getElem?_append_right (by rw [cells_length]; omega), cells_length]
      have : (i + 1) * 4 + j - 4 = i * 4 + j := by omega
      rw [this]
      exact ih h

mutual
/-- The term lies in memory: its args' cells at the note's address, in blocks of p. -/
def In (p : Nat → Prop) (w : World) : LT → Prop
  | .mk k n s e as => I64 k ∧ I64 n ∧ s.size ≤ maxLen ∧ as.length ≤ e.2 ∧ e.2 ≤ maxLen ∧ (e.1 = none → as.length = 0 ∧ e.2 = 0) ∧
      (0 < as.length → ∃ b o, e.1 = some ⟨b, o, none⟩ ∧ p b ∧ ∀ j u, (as.flatMap cells)[j]? = some u → w.cell? ⟨b, o + j, none⟩ = some u) ∧ Ins p w as
def Ins (p : Nat → Prop) (w : World) : List LT → Prop
  | [] => True
  | x :: l => In p w x ∧ Ins p w l
end
theorem ins_iff {p : Nat → Prop} {w : World} (l : List LT) : Ins p w l ↔ ∀ x ∈ l, In p w x := by
  induction l with
  | nil => simp [Ins]
  | cons x l ih => simp [Ins, ih]
theorem ins_append {p : Nat → Prop} {w : World} (a b : List LT) : Ins p w (a ++ b) ↔ Ins p w a ∧ Ins p w b := by
  rw [ins_iff, ins_iff, ins_iff]; simp [or_imp, forall_and]
mutual
theorem In.turned {p q : Nat → Prop} {S : Nat → Prop} {w w' : World} (ht : Turned S w w') (hS : ∀ k, k < w.heap.size → p k → ¬ S k) (hq : ∀ k, k < w.heap.size → p k → q k) : ∀ t : LT, In p w t → In q w' t
  | .mk k n s e as, h => by
    obtain ⟨h1, h2, h3, h4, h5, h6, h7, h8⟩ := h
    refine ⟨h1, h2, h3, h4, h5, h6, fun hp => ?_, Ins.turned ht hS hq as h8⟩
    obtain ⟨b, o, he, hb, hc⟩ := h7 hp
    have hlt : b < w.heap.size := by
      have h0 : (as.flatMap cells)[0]? = some ((as.flatMap cells)[0]'(by rw [flat_length]; omega)) := List.getElem?_eq_getElem _
      exact World.block_lt_of_cell? w _ (hc 0 _ h0)
    exact ⟨b, o, he, hq b hlt hb, fun j u hu => ht.cell (hc j u hu) (hS b hlt hb)⟩
theorem Ins.turned {p q : Nat → Prop} {S : Nat → Prop} {w w' : World} (ht : Turned S w w') (hS : ∀ k, k < w.heap.size → p k → ¬ S k) (hq : ∀ k, k < w.heap.size → p k → q k) : ∀ l : List LT, Ins p w l → Ins q w' l
  | [], _ => trivial
  | x :: l, h => ⟨In.turned ht hS hq x h.1, Ins.turned ht hS hq l h.2⟩
end
theorem In.turned0 {p : Nat → Prop} {w w' : World} {t : LT} (h : In p w t) (ht : Turned (fun _ => False) w w') : In p w' t := In.turned ht (fun _ _ _ f => f) (fun _ _ h => h) t h
theorem Ins.turned0 {p : Nat → Prop} {w w' : World} {l : List LT} (h : Ins p w l) (ht : Turned (fun _ => False) w w') : Ins p w' l := Ins.turned ht (fun _ _ _ f => f) (fun _ _ h => h) l h
theorem In.mono {p q : Nat → Prop} {w : World} {t : LT} (h : In p w t) (hq : ∀ k, k < w.heap.size → p k → q k) : In q w t := In.turned (Turned.refl (fun _ => False) w) (fun _ _ _ f => f) hq t h
theorem Ins.mono {p q : Nat → Prop} {w : World} {l : List LT} (h : Ins p w l) (hq : ∀ k, k < w.heap.size → p k → q k) : Ins q w l := Ins.turned (Turned.refl (fun _ => False) w) (fun _ _ _ f => f) hq l h
mutual
theorem In.flat {p : Nat → Prop} {w : World} : ∀ t : LT, In p w t → ∀ x ∈ t.flat, In p w x
  | .mk k n s e as, h, x, hx => by
    simp only [Tm.flat, List.mem_cons] at hx
    rcases hx with rfl | hx
    · exact h
    · exact Ins.flat as h.2.2.2.2.2.2.2 x hx
theorem Ins.flat {p : Nat → Prop} {w : World} : ∀ l : List LT, Ins p w l → ∀ x ∈ Tm.flats l, In p w x
  | [], _, x, hx => by simp [Tm.flats] at hx
  | y :: l, h, x, hx => by
    simp only [Tm.flats, List.mem_append] at hx
    rcases hx with hx | hx
    · exact In.flat y h.1 x hx
    · exact Ins.flat l h.2 x hx
end
theorem In.args {p : Nat → Prop} {w : World} {t : LT} (h : In p w t) : Ins p w t.args := by cases t; exact h.2.2.2.2.2.2.2
theorem In.kind {p : Nat → Prop} {w : World} {t : LT} (h : In p w t) : I64 t.kind := by cases t; exact h.1
theorem In.n {p : Nat → Prop} {w : World} {t : LT} (h : In p w t) : I64 t.n := by cases t; exact h.2.1
theorem In.name {p : Nat → Prop} {w : World} {t : LT} (h : In p w t) : t.name.size ≤ maxLen := by cases t; exact h.2.2.1

/-- The note. -/
def at_ (t : LT) : Option Addr × Nat := match t with | .mk _ _ _ e _ => e
theorem In.len {p : Nat → Prop} {w : World} {t : LT} (h : In p w t) : t.args.length ≤ t.at_.2 ∧ t.at_.2 ≤ maxLen ∧ (t.at_.1 = none → t.args.length = 0 ∧ t.at_.2 = 0) := by cases t; exact ⟨h.2.2.2.1, h.2.2.2.2.1, h.2.2.2.2.2.1⟩
theorem val_eq (t : LT) : t.val = .agg #[.int .i64 t.kind, .int .i64 t.n, .string t.name, .slice t.at_.1 t.args.length t.at_.2] := by cases t; rfl
theorem cells_eq (t : LT) : t.cells = [.int .i64 t.kind, .int .i64 t.n, .string t.name, .slice t.at_.1 t.args.length t.at_.2] := by cases t; rfl
/-- A row of terms' cells at an address. -/
def Lies (p : Nat → Prop) (w : World) (a : Option Addr) (l : List LT) : Prop :=
  0 < l.length → ∃ b o, a = some ⟨b, o, none⟩ ∧ p b ∧ ∀ j u, (l.flatMap cells)[j]? = some u → w.cell? ⟨b, o + j, none⟩ = some u
theorem In.lies {p : Nat → Prop} {w : World} {t : LT} (h : In p w t) : Lies p w t.at_.1 t.args := by cases t; exact h.2.2.2.2.2.2.1
theorem Lies.cell {p : Nat → Prop} {w : World} {a : Option Addr} {l : List LT} (h : Lies p w a l) {i : Nat} {x : LT} (hi : l[i]? = some x) :
    ∃ b o, a = some ⟨b, o, none⟩ ∧ p b ∧ w.cell? ⟨b, o + i * 4, none⟩ = some (.int .i64 x.kind) ∧ w.cell? ⟨b, o + i * 4 + 1, none⟩ = some (.int .i64 x.n) ∧ w.cell? ⟨b, o + i * 4 + 2, none⟩ = some (.string x.name) ∧ w.cell? ⟨b, o + i * 4 + 3, none⟩ = some (.slice x.at_.1 x.args.length x.at_.2) := by
  obtain ⟨b, o, rfl, hp, hc⟩ := h (by have := (List.getElem?_eq_some_iff.1 hi).1; omega)
  refine ⟨b, o, rfl, hp, hc _ _ ?_, ?_, ?_, ?_⟩
  rotate_left
  all_goals try (rw [Nat.add_assoc]; refine hc _ _ ?_)
  rotate_right
  · have := flat_at hi 0 (by omega); rw [Nat.add_zero] at this; rw [this, cells_eq]; rfl
  · rw [flat_at hi 1 (by omega), cells_eq]; rfl
  · rw [flat_at hi 2 (by omega), cells_eq]; rfl
  · rw [flat_at hi 3 (by omega), cells_eq]; rfl
theorem In.mk {p : Nat → Prop} {w : World} {k n : Int} {s : ByteArray} {a : Option Addr} {c : Nat} {as : List LT} (h1 : I64 k) (h2 : I64 n) (h3 : s.size ≤ maxLen) (h4 : as.length ≤ c) (h5 : c ≤ maxLen) (h6 : a = none → as.length = 0 ∧ c = 0)
    (h7 : Lies p w a as) (h8 : Ins p w as) : In p w (.mk k n s (a, c) as) := ⟨h1, h2, h3, h4, h5, h6, h7, h8⟩
/-- A row that nobody else holds, as a term's args. -/
theorem lies_of_row {p : Nat → Prop} {w : World} {e : TypeId} {v : Value} {l : List LT} {a : Option Addr} {n c : Nat} (h : Row w e 4 (.slice a n c) n (l.flatMap cells)) (hp : ∀ k, (Value.slice a n c).ownBlock = some k → p k) :
    n = l.length ∧ n ≤ c ∧ c ≤ maxLen ∧ (a = none → n = 0 ∧ c = 0) ∧ Lies p w a l := by
  have hn : n = l.length := by have := h.1; rw [flat_length] at this; omega
  refine ⟨hn, ?_⟩
  rcases h.2 with ⟨e, h0⟩ | ⟨g, cap, cur, e, hg, h1, h2, h3, h4⟩
  · injection e with e1 _ e2; subst e1; subst e2; subst h0
    exact ⟨Nat.le_refl _, by unfold maxLen; omega, fun _ => ⟨rfl, rfl⟩, fun hl => by omega⟩
  · injection e with e1 _ e2; subst e1; subst e2
    refine ⟨h1, h2, (fun e => by cases e), fun _ => ⟨g, 0, rfl, hp g rfl, fun j u hu => ?_⟩⟩
    rw [Nat.zero_add]
    exact h.cells rfl j u hu
end LT
end Go.Proofs.Ytoihjobdfjajfaa
