/- Terms made: Clone, Comp, Int, Var, Atom. -/
import Derived.Test.YtoihjobdfjajfaaDeep
namespace Go.Proofs.Ytoihjobdfjajfaa
set_option linter.unusedVariables false
set_option linter.unusedSimpArgs false
open Go.RowKit

def zeroT : Value := .agg #[.int .i64 0, .int .i64 0, .string ByteArray.empty, .slice none 0 0]
theorem infoT : (Try.prog.info? 27).map (fun i => (i.zero, i.size, i.bytes)) = some (some zeroT, 4, 56) := by kernel_rfl

/-- A slice of terms that came in from anywhere. -/
structure LT.Sl (p : Nat → Prop) (w : World) (a : Option Addr) (c : Nat) (l : List LT) : Prop where
  none_ : a = none → l.length = 0 ∧ c = 0
  lies : LT.Lies p w a l
  ins : LT.Ins p w l
  cap : l.length ≤ c
  max : c ≤ maxLen
theorem LT.Sl.turned {p q S : Nat → Prop} {w w' : World} {a : Option Addr} {c : Nat} {l : List LT} (h : LT.Sl p w a c l) (ht : Turned S w w') (hS : ∀ k, k < w.heap.size → p k → ¬ S k) (hq : ∀ k, k < w.heap.size → p k → q k) : LT.Sl q w' a c l := by
  refine ⟨h.none_, fun hp => ?_, LT.Ins.turned ht hS hq l h.ins, h.cap, h.max⟩
  obtain ⟨b, o, he, hb, hc⟩ := h.lies hp
  have hlt : b < w.heap.size := by
    have h0 : (l.flatMap LT.cells)[0]? = some ((l.flatMap LT.cells)[0]'(by rw [LT.flat_length]; omega)) := List.getElem?_eq_getElem _
    exact World.block_lt_of_cell? w _ (hc 0 _ h0)
  exact ⟨b, o, he, hq b hlt hb, fun j u hu => ht.cell (hc j u hu) (hS b hlt hb)⟩
theorem LT.Sl.turned0 {p : Nat → Prop} {w w' : World} {a : Option Addr} {c : Nat} {l : List LT} (h : LT.Sl p w a c l) (ht : Turned (fun _ => False) w w') : LT.Sl p w' a c l := h.turned ht (fun _ _ _ f => f) (fun _ _ h => h)
theorem LT.In.sl {p : Nat → Prop} {w : World} {t : LT} (h : t.In p w) : LT.Sl p w t.at_.1 t.at_.2 t.args := ⟨h.len.2.2, h.lies, h.args, h.len.1, h.len.2.1⟩
theorem LT.Sl.in_ {p : Nat → Prop} {w : World} {a : Option Addr} {c : Nat} {l : List LT} (h : LT.Sl p w a c l) {k n : Int} {s : ByteArray} (h1 : I64 k) (h2 : I64 n) (h3 : s.size ≤ maxLen) : LT.In p w (.mk k n s (a, c) l) :=
  LT.In.mk h1 h2 h3 h.cap h.max h.none_ h.lies h.ins
/-- The row of a slice of the call's own. -/
theorem LT.Sl.of_row {p : Nat → Prop} {w : World} {e : TypeId} {a : Option Addr} {n c : Nat} {l : List LT} (h : Row w e 4 (.slice a n c) n (l.flatMap LT.cells)) (hp : ∀ k, (Value.slice a n c).ownBlock = some k → p k) (hi : LT.Ins p w l) : n = l.length ∧ LT.Sl p w a c l := by
  obtain ⟨h1, h2, h3, h4, h5⟩ := LT.lies_of_row (v := .slice a n c) h hp
  exact ⟨h1, ⟨fun e => by rw [← h1]; exact h4 e, h5, hi, by omega, h3⟩⟩

set_option maxHeartbeats 400000 in
theorem clone128 {p : Nat → Prop} {w : World} {a : Option Addr} {c : Nat} {l : List LT} (h : LT.Sl p w a c l) (hn : l.length ≤ 65536) :
    Calls Try.prog 128 #[.slice a l.length c] w fun e w' => ∃ a' c', e = .returned (.slice a' l.length c') ∧ Row w' 27 4 (.slice a' l.length c') l.length (l.flatMap LT.cells) ∧ (∀ k, (Value.slice a' l.length c').ownBlock = some k → w.heap.size ≤ k) ∧ Turned (fun _ => False) w w' := by
  obtain ⟨i0, hi0, hz0, hz1, hz2⟩ := info_parts infoT
  have hnil := fun (w : World) (a : Option Addr) (n c : Nat) => Lib.run_eql_slice_nil (P := Try.prog) w 22 27 a n c 0 0 Try.underlying22
  cases a with
  | none =>
    obtain ⟨h0, rfl⟩ := h.none_ rfl
    have : l = [] := List.eq_nil_of_length_eq_zero h0
    subst this
    clear h
    show Calls Try.prog 128 #[.slice none 0 0] w _
    go_enter Try.func128, Try.ntmps128
    go_wp2
    go_ret
    exact ⟨none, 0, rfl, Row.nil _ _ _, by simp [Value.ownBlock], Turned.refl _ _⟩
  | some ad =>
    have hc : ∀ o : Obj, ∀ j u, (l.flatMap LT.cells)[j]? = some u → (w.alloc o).cell? (ad.add j) = some u := by
      intro o j u hu
      have hl : 0 < l.length := by
        have := (List.getElem?_eq_some_iff.1 hu).1
        rw [LT.flat_length] at this; omega
      obtain ⟨b, o', e, _, hcc⟩ := h.lies hl
      have e2 := Option.some.inj e; subst e2
      rw [Addr.add_lit]
      exact cell_old (hcc j u hu)
    have HC := Lib.hid hc
    clear hc h
    go_enter Try.func128, Try.ntmps128
    go_wp2_with (first
      | (at_builtin; refine append_row _ rfl _ _ 22 rfl 27 i0 zeroT 4 56 Try.underlying22 hi0 hz0 hz1 hz2 rfl (by decide) _ _ _ rfl (Row.made _ 27 4 #[] 0 rfl (by simp)) ad l.length c (l.flatMap LT.cells) rfl (LT.flat_length l) (HC.out _) (LT.flat_one l) (by unfold maxLen; omega) (by omega) ?_; intro v2 w2 hown2 hg2 hl2 _))
    go_ret
    have hown3 : Row w2 27 4 v2 l.length (l.flatMap LT.cells) := by simpa using hown2
    obtain ⟨a', c', rfl⟩ := hown3.shape
    refine ⟨a', c', rfl, hown3, ?_, ((Turned.refl (fun _ => False) w).alloc (.cells #[] 27)).step hg2 ?_⟩
    · intro k hk
      rcases hl2 with e | e
      · rw [hk] at e; simp [Value.ownBlock, Act.eval] at e; omega
      · rw [hk] at e; simp at e; omega
    · intro k hk1 hk
      simp [Value.ownBlock, Act.eval] at hk
      omega

theorem i64_lit (n : Int) (h : -1000000 ≤ n ∧ n ≤ 1000000) : I64 n := by unfold I64; omega
/-- A block of four cells that was just laid, behind a turn. -/
theorem box4 {w w2 : World} {a b c d : Value} {T : TypeId} (ht : Turned (fun _ => False) (w.alloc (.cells #[a, b, c, d] T)) w2) :
    w2.heap[w.heap.size]? = some (.cells #[a, b, c, d] T (0, 0)) ∧ w.heap.size < w2.heap.size := by
  have hs := ht.size
  simp at hs
  exact ⟨(ht.block w.heap.size (by simp) (fun f => f)).trans (heap_alloc_new w _), by omega⟩
theorem cells4 {w : World} {g : Nat} {a b c d : Value} {T : TypeId} (h : w.heap[g]? = some (.cells #[a, b, c, d] T (0, 0))) :
    w.cell? ⟨g, 0, none⟩ = some a ∧ w.cell? ⟨g, 1, none⟩ = some b ∧ w.cell? ⟨g, 2, none⟩ = some c ∧ w.cell? ⟨g, 3, none⟩ = some d ∧ w.frozen? ⟨g, 0, none⟩ = false ∧ w.frozen? ⟨g, 1, none⟩ = false ∧ w.frozen? ⟨g, 2, none⟩ = false ∧ w.frozen? ⟨g, 3, none⟩ = false :=
  ⟨cell_of_row w g 0 _ T (0, 0) h, cell_of_row w g 1 _ T (0, 0) h, cell_of_row w g 2 _ T (0, 0) h, cell_of_row w g 3 _ T (0, 0) h, frozen_of_row w g 0 _ T h, frozen_of_row w g 1 _ T h, frozen_of_row w g 2 _ T h, frozen_of_row w g 3 _ T h⟩

/-- Four stores that fill such a block. -/
theorem set4 {w : World} {g : Nat} {a b c d a' b' c' d' : Value} {T : TypeId} (h : w.heap[g]? = some (.cells #[a, b, c, d] T (0, 0))) :
    ((((w.setCell ⟨g, 0, none⟩ a').setCell ⟨g, 1, none⟩ b').setCell ⟨g, 2, none⟩ c').setCell ⟨g, 3, none⟩ d').heap[g]? = some (.cells #[a', b', c', d'] T (0, 0)) := by
  have h1 := heap_setCell_same w g 0 _ T a' h
  have h2 := heap_setCell_same _ g 1 _ T b' h1
  have h3 := heap_setCell_same _ g 2 _ T c' h2
  have h4 := heap_setCell_same _ g 3 _ T d' h3
  simpa using h4
theorem turned4 {w w2 : World} {g : Nat} {a b c d : Value} (h : Turned (fun _ => False) w w2) (hg : w.heap.size ≤ g) :
    Turned (fun _ => False) w ((((w2.setCell ⟨g, 0, none⟩ a).setCell ⟨g, 1, none⟩ b).setCell ⟨g, 2, none⟩ c).setCell ⟨g, 3, none⟩ d) :=
  (((h.setCell (.inl hg) _).setCell (.inl hg) _).setCell (.inl hg) _).setCell (.inl hg) _

set_option maxHeartbeats 400000 in
theorem comp37 {p : Nat → Prop} {w : World} {a : Option Addr} {c : Nat} {l : List LT} (s : ByteArray) (hs : s.size ≤ maxLen) (h : LT.Sl p w a c l) (hn : l.length ≤ 65536) :
    Calls Try.prog 37 #[.string s, .slice a l.length c] w fun e w' => ∃ d, e = .returned (LT.val (.mk 2 0 s d l)) ∧ LT.In (fun k => p k ∨ w.heap.size ≤ k) w' (.mk 2 0 s d l) ∧ Turned (fun _ => False) w w' := by
  have hcl : ∀ o, Calls Try.prog 128 #[.slice a l.length c] (w.alloc o) _ := fun o => clone128 (h.turned0 ((Turned.refl _ w).alloc o)) hn
  have HCL := Lib.hid hcl
  clear hcl
  go_enter Try.func37, Try.ntmps37
  go_wp2_with (go_at_call 128; refine (HCL.out _).mono ?_; rintro e w2 ⟨a', c', rfl, hv, hl, ht⟩; obtain ⟨hbox, hlt⟩ := box4 ht; obtain ⟨c0, c1, c2, c3, f0, f1, f2, f3⟩ := cells4 hbox; have HB := Lib.hid hbox; clear hbox)
  have T0 := ((Turned.refl (fun _ => False) w).alloc (.cells #[.int .i64 0, .int .i64 0, .string ⟨#[]⟩, .slice none 0 0] 27)).trans ht
  have hsz : w.heap.size ≤ (w.alloc (.cells #[.int .i64 0, .int .i64 0, .string ⟨#[]⟩, .slice none 0 0] 27)).heap.size := by simp
  have hset := set4 (a' := .int .i64 2) (b' := .int .i64 0) (c' := .string s) (d' := .slice a' l.length c') HB.out
  have T4 := turned4 (a := .int .i64 2) (b := .int .i64 0) (c := .string s) (d := .slice a' l.length c') T0 (Nat.le_refl _)
  have hrow : Row ((((w2.setCell ⟨w.heap.size, 0, none⟩ (.int .i64 2)).setCell ⟨w.heap.size, 1, none⟩ (.int .i64 0)).setCell ⟨w.heap.size, 2, none⟩ (.string s)).setCell ⟨w.heap.size, 3, none⟩ (.slice a' l.length c')) 27 4 (.slice a' l.length c') l.length (l.flatMap LT.cells) := by
    have hne : ∀ j, (Value.slice a' l.length c').ownBlock ≠ some (Addr.block ⟨w.heap.size, j, none⟩) := fun j e => by
      have := hl _ e
      simp at this
      omega
    exact (((hv.setCell (hne 0) _).setCell (hne 1) _).setCell (hne 2) _).setCell (hne 3) _
  refine bodyPost_ret (v := .agg #[.int .i64 2, .int .i64 0, .string s, .slice a' l.length c']) (results_cell_row Try.results37 _ _ w.heap.size 27 _ (0, 0) _ rfl hset Try.underlying27 rfl (by kernel_rfl)) rfl ⟨(a', c'), rfl, ?_, T4⟩
  obtain ⟨_, hsl⟩ := LT.Sl.of_row (p := fun k => p k ∨ w.heap.size ≤ k) hrow (fun k hk => .inr (Nat.le_trans hsz (hl k hk))) (LT.Ins.mono (h.ins.turned0 T4) (fun _ _ hk => .inl hk))
  exact hsl.in_ (i64_lit 2 (by omega)) (i64_lit 0 (by omega)) hs

set_option maxHeartbeats 400000 in
theorem int61 (n : Int) (hn : I64 n) (w : World) :
    Calls Try.prog 61 #[.int .i64 n] w fun e w' => e = .returned (LT.val (.mk 1 n ByteArray.empty (none, 0) [])) ∧ (∀ p, LT.In p w' (.mk 1 n ByteArray.empty (none, 0) [])) ∧ Turned (fun _ => False) w w' := by
  go_enter Try.func61, Try.ntmps61
  go_wp2_with fail
  refine bodyPost_ret (v := .agg #[.int .i64 1, .int .i64 n, .string ByteArray.empty, .slice none 0 0]) (results_cell_row Try.results61 _ _ w.heap.size 27 _ (0, 0) _ rfl (heap_alloc_new w _) Try.underlying27 rfl (by kernel_rfl)) rfl ⟨rfl, fun p => ?_, (Turned.refl _ _).alloc _⟩
  exact LT.In.mk (i64_lit 1 (by omega)) hn (by unfold maxLen; decide) (Nat.le_refl _) (by unfold maxLen; omega) (fun _ => ⟨rfl, rfl⟩) (fun h => absurd h (by decide)) trivial
set_option maxHeartbeats 400000 in
theorem var62 (n : Int) (hn : I64 n) (w : World) :
    Calls Try.prog 62 #[.int .i64 n] w fun e w' => e = .returned (LT.val (.mk 0 n ByteArray.empty (none, 0) [])) ∧ (∀ p, LT.In p w' (.mk 0 n ByteArray.empty (none, 0) [])) ∧ Turned (fun _ => False) w w' := by
  go_enter Try.func62, Try.ntmps62
  go_wp2_with fail
  refine bodyPost_ret (v := .agg #[.int .i64 0, .int .i64 n, .string ByteArray.empty, .slice none 0 0]) (results_cell_row Try.results62 _ _ w.heap.size 27 _ (0, 0) _ rfl (heap_alloc_new w _) Try.underlying27 rfl (by kernel_rfl)) rfl ⟨rfl, fun p => ?_, (Turned.refl _ _).alloc _⟩
  exact LT.In.mk (i64_lit 0 (by omega)) hn (by unfold maxLen; decide) (Nat.le_refl _) (by unfold maxLen; omega) (fun _ => ⟨rfl, rfl⟩) (fun h => absurd h (by decide)) trivial
set_option maxHeartbeats 400000 in
theorem atom63 (s : ByteArray) (hs : s.size ≤ maxLen) (w : World) :
    Calls Try.prog 63 #[.string s] w fun e w' => e = .returned (LT.val (.mk 2 0 s (none, 0) [])) ∧ (∀ p, LT.In p w' (.mk 2 0 s (none, 0) [])) ∧ Turned (fun _ => False) w w' := by
  go_enter Try.func63, Try.ntmps63
  go_wp2_with fail
  refine bodyPost_ret (v := .agg #[.int .i64 2, .int .i64 0, .string s, .slice none 0 0]) (results_cell_row Try.results63 _ _ w.heap.size 27 _ (0, 0) _ rfl (heap_alloc_new w _) Try.underlying27 rfl (by kernel_rfl)) rfl ⟨rfl, fun p => ?_, (Turned.refl _ _).alloc _⟩
  exact LT.In.mk (i64_lit 2 (by omega)) (i64_lit 0 (by omega)) hs (Nat.le_refl _) (by unfold maxLen; omega) (fun _ => ⟨rfl, rfl⟩) (fun h => absurd h (by decide)) trivial
end Go.Proofs.Ytoihjobdfjajfaa
