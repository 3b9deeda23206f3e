/- Size: how many terms it is made of, up to 2001. -/
import Derived.Test.YtoihjobdfjajfaaEach
namespace Go.Proofs.Ytoihjobdfjajfaa
set_option linter.unusedVariables false
set_option linter.unusedSimpArgs false
open Go.RowKit

theorem cell1_set {w : World} {b : Nat} {u v : Value} {T : TypeId} (h : w.heap[b]? = some (.cells #[u] T (0, 0))) : (w.setCell ⟨b, 0, none⟩ v).heap[b]? = some (.cells #[v] T (0, 0)) := by
  have := heap_setCell_same w b 0 _ T v h
  simpa using this
theorem cell1 {w : World} {b : Nat} {u : Value} {T : TypeId} (h : w.heap[b]? = some (.cells #[u] T (0, 0))) : w.cell? ⟨b, 0, none⟩ = some u ∧ w.frozen? ⟨b, 0, none⟩ = false :=
  ⟨cell_of_row w b 0 _ T (0, 0) h, frozen_of_row w b 0 _ T h⟩

set_option maxHeartbeats 400000 in
theorem sizeOne126 (t : LT) (b l : Nat) (w : World) (hb : w.heap[b]? = some (.cells #[.int .i64 (l : Int)] 3 (0, 0))) (hl : l ≤ 100000) :
    Calls Try.prog 126 #[t.val, .pointer (some ⟨b, 0, none⟩)] w fun e w' => e = .returned (.bool (decide (l + 1 ≤ 2000))) ∧ w'.heap[b]? = some (.cells #[.int .i64 ((l + 1 : Nat) : Int)] 3 (0, 0)) ∧ Turned (· = b) w w' := by
  rw [LT.val_eq]
  have hlt := (Array.getElem?_eq_some_iff.1 hb).1
  obtain ⟨c0, f0⟩ := cell1 hb
  have HB := Lib.hid hb
  clear hb
  go_enter Try.func126, Try.ntmps126
  go_wp2_with fail
  go_ret
  refine ⟨ret_bool (by rw [decide_eq_decide]; omega), ?_, ((Turned.refl (· = b) w).setCell (.inr rfl) _).alloc _⟩
  exact (Below.heap_alloc _ _ _ (by simpa [World.setCell] using hlt)).trans (cell1_set HB.out)

/-- Counting, up to 2001. -/
def ansSize {α : Type} (l : List α) (_ : α) : Bool := decide (l.length + 1 ≤ 2000)
theorem tell_size {α : Type} (told l : List α) (h : told.length ≤ 2000) : (tell ansSize told l).2.length = min (told.length + l.length) 2001 := by
  induction l generalizing told with
  | nil => simp only [tell, List.length_nil]; omega
  | cons x l ih =>
    rw [tell_cons]
    by_cases hx : told.length + 1 ≤ 2000
    · rw [if_pos (by simp [ansSize, hx]), ih _ (by simp; omega)]
      simp; omega
    · rw [if_neg (by simp [ansSize, hx])]
      simp; omega

def InvSize (b : Nat) (M : Nat → Prop) (l : List LT) (w : World) : Prop := (∀ k, M k ↔ k = b) ∧ w.heap[b]? = some (.cells #[.int .i64 (l.length : Int)] 3 (0, 0))
theorem enter126 (args : Array Value) (w : World) : (callFunc 126 args).run Try.prog w = .ok (.enter 126 args) w := by kernel_rfl
theorem told_size (p : Nat → Prop) (t : LT) (b : Nat) (M0 : Nat → Prop) : Told p 126 #[.pointer (some ⟨b, 0, none⟩)] t M0 (InvSize b) (fun l x => ansSize l x) := by
  refine ⟨enter126, fun M l w k h hk => ?_, fun M T l w w' h ht hT => ?_, fun M l x r w h hl hF hx => ?_⟩
  · have := (h.1 k).1 hk; subst this; exact (Array.getElem?_eq_some_iff.1 h.2).1
  · have hlt := (Array.getElem?_eq_some_iff.1 h.2).1
    exact ⟨h.1, (ht.block b hlt (fun k => hT b hlt k ((h.1 b).2 rfl))).trans h.2⟩
  · refine (sizeOne126 x b l.length w h.2 (by omega)).mono ?_
    rintro e w' ⟨rfl, hb, ht⟩
    exact ⟨rfl, M, ⟨h.1, by rw [List.length_append]; exact hb⟩, ht.mono (fun i _ e => (h.1 i).2 e), fun k hk => .inl hk⟩

/-- No more than 12 args anywhere. -/
def slim {α : Type} (t : Tm α) : Prop := ∀ x ∈ t.flat, x.args.length ≤ 12

set_option maxHeartbeats 400000 in
theorem size35 {p : Nat → Prop} {t : LT} {w : World} (ht : t.In p w) (hs : slim t) :
    Calls Try.prog 35 #[t.val] w fun e w' => e = .returned (.int .i64 ((min t.size 2001 : Nat) : Int)) ∧ Turned (fun _ => False) w w' := by
  have hmf : ∀ (fn : Fn) (first cap : Array Value) (w : World), (Instr.makeFunc fn first cap).run Try.prog w = .ok (.func fn first cap) w := fun _ _ _ _ => rfl
  have T1 := ((Turned.refl (fun _ => False) w).alloc (.cells #[.int .i64 t.kind, .int .i64 t.n, .string t.name, .slice t.at_.1 t.args.length t.at_.2] 27)).alloc (.cells #[.int .i64 0] 3)
  have hbk : ((w.alloc (.cells #[.int .i64 t.kind, .int .i64 t.n, .string t.name, .slice t.at_.1 t.args.length t.at_.2] 27)).alloc (.cells #[.int .i64 0] 3)).heap[w.heap.size + 1]? = some (.cells #[.int .i64 0] 3 (0, 0)) := heap_alloc2_new _ _ _
  have hin : t.In (fun k => p k ∧ k < w.heap.size) ((w.alloc (.cells #[.int .i64 t.kind, .int .i64 t.n, .string t.name, .slice t.at_.1 t.args.length t.at_.2] 27)).alloc (.cells #[.int .i64 0] 3)) :=
    LT.In.turned T1 (fun _ _ _ f => f) (fun k hk h => ⟨h, hk⟩) t ht
  have hc := each124 (told_size (fun k => p k ∧ k < w.heap.size) t (w.heap.size + 1) (· = w.heap.size + 1)) hin (fun k hk e => by omega) (M := (· = w.heap.size + 1)) ⟨fun k => Iff.rfl, hbk⟩ (fun k h => h) hs (fun l x r _ h => by simp [ansSize] at h; omega)
  have htl := tell_size [] t.flat (by simp)
  rw [Tm.flat_length] at htl
  rw [LT.val_eq] at hc ⊢
  have HC := Lib.hid hc
  have HTL := Lib.hid htl
  have HB := Lib.hid T1
  clear hc htl hbk T1 hin
  go_enter Try.func35, Try.ntmps35
  go_wp2_with (go_at_call 124; refine HC.out.mono ?_; rintro e w2 ⟨rfl, M2, ⟨hM, hb⟩, hsub, hT⟩; obtain ⟨c0, f0⟩ := cell1 hb; have HB2 := Lib.hid hb; clear hb)
  go_ret
  refine ⟨?_, HB.out.step hT (fun i hi e => by omega)⟩
  rw [HTL.out]
  simp
end Go.Proofs.Ytoihjobdfjajfaa
