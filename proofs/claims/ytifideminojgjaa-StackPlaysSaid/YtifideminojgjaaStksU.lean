/- What the calls of a stack do. -/
import Derived.Test.YtifideminojgjaaStksW
import Derived.Test.YtifideminojgjaaProg
import Derived.LoopTactic
import Derived.BigRegion
namespace Go.Proofs.Ytifideminojgjaa
open Go.RowKit
set_option linter.unusedVariables false
set_option linter.unusedSimpArgs false


/-- Cells of a block are written over from place m on. -/
theorem setCells_blk (b : Nat) (e : TypeId) (m : Nat) : ∀ (vs : List Value) (o : Nat) (w : World) (cur : Array Value), m ≤ o → w.heap[b]? = some (.cells cur e (0, 0)) → ∃ cur' : Array Value, (w.setCells b o vs).heap[b]? = some (.cells cur' e (0, 0)) ∧ cur'.size = cur.size ∧ cur'.toList.take m = cur.toList.take m
  | [], o, w, cur, _, h => ⟨cur, h, rfl, rfl⟩
  | v :: r, o, w, cur, ho, h => by
    have h1 : (w.setCell ⟨b, o, none⟩ v).heap[b]? = some (.cells (cur.setIfInBounds o v) e (0, 0)) := by
      simp only [World.setCell, Array.getElem?_modify]; simp [h]
    obtain ⟨cur', q1, q2, q3⟩ := setCells_blk b e m r (o + 1) _ _ (by omega) h1
    refine ⟨cur', q1, by rw [q2]; simp, ?_⟩
    rw [q3, Array.toList_setIfInBounds, List.take_set_of_le ho]

theorem setCells_turned (b : Nat) : ∀ (vs : List Value) (o : Nat) (w : World), Turned (· = b) w (w.setCells b o vs)
  | [], _, w => Turned.refl _ _
  | v :: r, o, w => ((Turned.refl (· = b) w).setCell (p := ⟨b, o, none⟩) (.inr rfl) v).trans (setCells_turned b r (o + 1) _)

/-- clear(s[m:]) where s is a row, the run. -/
theorem run_clear_row {P : Program} {w : World} {t e ty : TypeId} {z : Value} (ht : P.underlying t = some (.slice e)) (hv : ∀ w, (zeroValue e).run P w = .ok z w) (hz : z.cells = #[z]) (h1 : z.oneCell' = true)
    {g n cap m c k : Nat} {xs : List Value} (h : Row w e 1 (.slice (some ⟨g, 0, none⟩) n cap) n xs) (hk : m + k = n) :
    ∃ w', (Builtin.clear_ #[t] ty #[.slice (some ⟨g, m, none⟩) k c]).run P w = .ok (.tuple #[]) w' ∧ Row w' e 1 (.slice (some ⟨g, 0, none⟩) m cap) m (xs.take m) ∧ Turned (· = g) w w' := by
  rcases h.2 with ⟨e, _⟩ | ⟨g', cp, cur, e, hg, q1, q2, q3, q4⟩
  · cases e
  · injection e with e1 _ e3; injection e1 with e1; injection e1 with e1; subst e1; subst e3
    by_cases h0 : k = 0
    · subst h0
      refine ⟨w, ?_, ?_, Turned.refl _ _⟩
      · simp [Builtin.clear_, run_underlying ht]
      · exact h.over (by omega) ⟨cur, cur, hg, hg, rfl, rfl⟩
    · obtain ⟨cur', r1, r2, r3⟩ := setCells_blk g e m (List.replicate k z) m w cur (Nat.le_refl _) hg
      have hc : ∀ j, j < k → (w.cell? ⟨g, m + j, none⟩).isSome = true := by
        intro j hj
        rw [cell_of_row w g (m + j) cur e (0, 0) hg]
        simp
        omega
      refine ⟨_, Lib.run_clear_slice w t e ty z ht hv hz h1 g m k c (by omega) hc (fun j _ => frozen_of_row w g _ cur e hg), ?_, setCells_turned g _ _ w⟩
      exact h.over (by omega) ⟨cur, cur', hg, r1, r2, r3⟩

theorem clear_row {P : Program} (w : World) {ops : Array Oper} {rest : List Oper} {o : Oper} {a : Act} {Q : Exit → Act → World → Prop} (hgd : o.guard = none) (s : Operand) (t : TypeId)
    (ho : o.op = .call { callee := .builtin .clear, args := #[s], argTypes := #[t] })
    (e : TypeId) (z : Value) (ht : P.underlying t = some (.slice e)) (hv : ∀ w, (zeroValue e).run P w = .ok z w) (hz : z.cells = #[z]) (h1 : z.oneCell' = true)
    (g n cap m c k : Nat) (xs : List Value) (h : Row w e 1 (.slice (some ⟨g, 0, none⟩) n cap) n xs) (hk : m + k = n) (hs : a.eval s = .slice (some ⟨g, m, none⟩) k c)
    (hK : ∀ w', Row w' e 1 (.slice (some ⟨g, 0, none⟩) m cap) m (xs.take m) → Turned (· = g) w w' → wpList P ops Q rest (a.put o.dst (.tuple #[])) w') : wpList P ops Q (o :: rest) a w := by
  refine wpList_plain hgd fun K hK' => ?_
  obtain ⟨w', hr, h2, h3⟩ := run_clear_row (P := P) (ty := o.type) ht hv hz h1 (c := c) h hk
  unfold Oper.wp execOp
  simp only [ho, resolve, invoke, builtin, Sem.run_bind, Sem.run_pure, Result.andThen_ok, List.map_toArray, List.map_cons, List.map_nil, hs, hr]
  exact hK' _ _ (hK w' h2 h3)

/-- clear of no element. -/
theorem clear_none {P : Program} (w : World) {ops : Array Oper} {rest : List Oper} {o : Oper} {a : Act} {Q : Exit → Act → World → Prop} (hgd : o.guard = none) (s : Operand) (t : TypeId)
    (ho : o.op = .call { callee := .builtin .clear, args := #[s], argTypes := #[t] }) (e : TypeId) (ht : P.underlying t = some (.slice e)) (ao : Option Addr) (k c : Nat) (hk0 : k = 0) (hs : a.eval s = .slice ao k c)
    (hK : wpList P ops Q rest (a.put o.dst (.tuple #[])) w) : wpList P ops Q (o :: rest) a w := by
  subst hk0
  refine wpList_plain hgd fun K hK' => ?_
  have hr : (Builtin.clear_ #[t] o.type #[.slice ao 0 c]).run P w = .ok (.tuple #[]) w := by
    cases ao <;> simp [Builtin.clear_, run_underlying ht]
  unfold Oper.wp execOp
  simp only [ho, resolve, invoke, builtin, Sem.run_bind, Sem.run_pure, Result.andThen_ok, List.map_toArray, List.map_cons, List.map_nil, hs, hr]
  exact hK' _ _ hK

theorem zeroVI (w : World) : (zeroValue 3).run Try.prog w = .ok (.int .i64 0) w := by kernel_rfl

set_option maxHeartbeats 400000 in
theorem stkCloneI_some {w : World} {ad : Addr} {n cap : Nat} {xs : List Value} (hl : xs.length = n * 1) (hcells : ∀ j u, xs[j]? = some u → w.cell? (ad.add j) = some u) (hx : ∀ x ∈ xs, x.oneCell' = true) (hn : n ≤ 65536) :
    Calls Try.prog 41 #[.slice (some ad) n cap] w fun e w' => ∃ v, e = .returned v ∧ Row w' 3 1 v n xs ∧ (∀ k, v.ownBlock = some k → w.heap.size ≤ k) ∧ Turned (fun _ => False) w w' := by
  obtain ⟨i0, hi0, hz0, hz1, hz2⟩ := info_parts stkInfoI
  have hnil := fun (w : World) (a : Option Addr) (n c : Nat) => Lib.run_eql_slice_nil (P := Try.prog) w 55 3 a n c 0 0 Try.underlying55
  have hc' : ∀ o : Obj, ∀ j u, xs[j]? = some u → (w.alloc o).cell? (ad.add j) = some u := fun o j u h => cell_old (hcells j u h)
  have HC := Lib.hid hc'
  clear hcells hc'
  go_enter Try.func41, Try.ntmps41
  go_wp2_with (first
    | (at_builtin; refine append_row _ rfl _ _ 55 rfl 3 i0 (.int .i64 0) 1 8 Try.underlying55 hi0 hz0 hz1 hz2 rfl (by decide) _ _ _ rfl (Row.made _ 3 1 #[] 0 rfl (by simp)) ad n cap xs rfl hl (HC.out _) hx (by unfold maxLen; omega) (by omega) ?_; intro v2 w2 hown2 hg2 hl2 _))
  go_ret
  refine ⟨_, rfl, by simpa using hown2, ?_, ((Turned.refl (fun _ => False) w).alloc (.cells #[] 3)).step hg2 ?_⟩
  · intro k hk
    change v2.ownBlock = some k at hk
    rcases hl2 with e | e
    · rw [hk] at e; simp [Value.ownBlock, Act.eval] at e; omega
    · rw [hk] at e; simp at e; omega
  · intro k hk1 hk
    simp [Value.ownBlock, Act.eval] at hk
    omega

set_option maxHeartbeats 400000 in
theorem stkCloneI_nil (w : World) :
    Calls Try.prog 41 #[.slice none 0 0] w fun e w' => e = .returned (.slice none 0 0) ∧ w = w' := by
  have hnil := fun (w : World) (a : Option Addr) (n c : Nat) => Lib.run_eql_slice_nil (P := Try.prog) w 55 3 a n c 0 0 Try.underlying55
  go_enter Try.func41, Try.ntmps41
  go_wp2
  go_ret
  exact ⟨rfl, rfl⟩

/-- Clone of a slice of whatever make. -/
theorem stkCloneI {w : World} {ao : Option Addr} {n cap : Nat} {xs : List Value} (hnone : ao = none → n = 0 ∧ cap = 0) (hl : xs.length = n) (hcells : ∀ ad, ao = some ad → ∀ j u, xs[j]? = some u → w.cell? (ad.add j) = some u) (hx : ∀ x ∈ xs, x.oneCell' = true) (hn : n ≤ 65536) :
    Calls Try.prog 41 #[.slice ao n cap] w fun e w' => ∃ v, e = .returned v ∧ Row w' 3 1 v n xs ∧ (∀ k, v.ownBlock = some k → w.heap.size ≤ k) ∧ Turned (fun _ => False) w w' := by
  cases ao with
  | some ad => exact stkCloneI_some (by rw [Nat.mul_one]; exact hl) (hcells ad rfl) hx hn
  | none =>
    obtain ⟨rfl, rfl⟩ := hnone rfl
    have : xs = [] := List.eq_nil_of_length_eq_zero hl
    subst this
    exact (stkCloneI_nil w).mono fun e w' ⟨he, hw⟩ => hw ▸ ⟨_, he, Row.nil _ _ _, by simp [Value.ownBlock], Turned.refl _ _⟩

set_option maxHeartbeats 400000 in
theorem stkUndoI_no {w : World} {B sb room : Nat} {lv : Value} {l : List Int} (h : StkI w B sb room lv l) (n : Int) (hn : n < 0 ∨ (l.length : Int) < n) :
    Calls Try.prog 34 #[.pointer (some ⟨sb, 0, none⟩), .int .i64 n] w fun e w' => e = .returned (.tuple #[.slice none 0 0, .bool false]) ∧ w = w' := by
  obtain ⟨a, cap, rfl⟩ := h.row.shape
  have hr := h.room2
  have hl := h.len
  obtain ⟨c0, c1, _⟩ := rec2_cells h.blk
  clear h
  by_cases h0 : n < 0
  · go_enter Try.func34, Try.ntmps34
    go_wp2

    go_ret2
    exact ⟨rfl, rfl⟩
  · have h1 : (l.length : Int) < n := by omega
    have h2 : 0 ≤ n := by omega
    clear hn h0
    go_enter Try.func34, Try.ntmps34
    go_wp2

    go_ret2
    exact ⟨rfl, rfl⟩

theorem undo_closeI {w w1 w2 : World} {B sb room cap g n : Nat} {l : List Int} (h : StkI w B sb room (.slice (some ⟨g, 0, none⟩) l.length cap) l) (hn : n ≤ l.length)
    (T1 : Turned (fun _ => False) w w1) (T2 : Turned (· = g) w1 w2) (hrow : Row w2 3 1 (.slice (some ⟨g, 0, none⟩) n cap) n ((l.map (Value.int .i64)).take n)) :
    StkI (w2.setCell ⟨sb, 1, none⟩ (.slice (some ⟨g, 0, none⟩) n cap)) B sb room (.slice (some ⟨g, 0, none⟩) n cap) (l.take n) ∧ Turned (Mine2 sb (.slice (some ⟨g, 0, none⟩) l.length cap)) w (w2.setCell ⟨sb, 1, none⟩ (.slice (some ⟨g, 0, none⟩) n cap)) := by
  have hgs : g ≠ sb := fun e => h.apart (by rw [e]; rfl)
  have lsb := (Array.getElem?_eq_some_iff.1 h.blk).1
  have hl := h.len
  have hlen : (l.take n).length = n := by rw [List.length_take]; omega
  have blk2 := (T2.block sb (Nat.lt_of_lt_of_le lsb T1.size) (fun e => hgs e.symm)).trans ((T1.block sb lsb (fun f => f)).trans h.blk)
  refine ⟨⟨h.base, fun k hk => h.baseR k hk, rec2_set blk2 _, ?_, by simp [Value.ownBlock]; exact hgs, h.room1, h.room2, by omega⟩, ?_⟩
  · rw [hlen, List.map_take]
    exact hrow.setCell (p := ⟨sb, 1, none⟩) (by simp [Value.ownBlock]; exact hgs) _
  · exact Turned.setCell (((T1.mono (fun _ _ f => f.elim))).step (T := (· = g)) T2 (fun i _ e => .inr (by rw [e]; rfl))) (.inr (.inl rfl)) _

set_option maxHeartbeats 1000000 in
theorem stkUndoI_some {w : World} {B sb room g cap : Nat} {l : List Int} (h : StkI w B sb room (.slice (some ⟨g, 0, none⟩) l.length cap) l) (n : Nat) (hn : n ≤ l.length) :
    Calls Try.prog 34 #[.pointer (some ⟨sb, 0, none⟩), .int .i64 n] w fun e w' => ∃ v lv', e = .returned (.tuple #[v, .bool true]) ∧ Row w' 3 1 v (l.length - n) ((l.drop n).map (Value.int .i64)).reverse ∧ (∀ k, v.ownBlock = some k → w.heap.size ≤ k) ∧
      StkI w' B sb room lv' (l.take n) ∧ lv'.ownBlock = some g ∧ Turned (Mine2 sb (.slice (some ⟨g, 0, none⟩) l.length cap)) w w' := by
  have hk := Lib.hid h
  have hr := h.room2
  have hl := h.len
  obtain ⟨c0, c1, f1⟩ := rec2_cells h.blk
  have lsb := (Array.getElem?_eq_some_iff.1 h.blk).1
  have lg := h.row.lt g rfl
  have hcl : l.length ≤ cap := by
    rcases h.row.2 with ⟨e, _⟩ | ⟨_, _, _, e, _, hh, _⟩
    · cases e
    · injection e with _ _ e; omega
  have hd : decide ((n : Int) < 0) = false := by simp
  have hd2 : decide (l.length < n) = false := by simp; omega
  have hgs : ¬ sb = g := fun e => h.apart (by rw [e]; rfl)
  have hcells : ∀ c, (¬ cap = n → c = n) → ∀ ad, some (⟨g, c, none⟩ : Addr) = some ad → ∀ j u, ((l.drop n).map (Value.int .i64))[j]? = some u → w.cell? (ad.add j) = some u := by
    intro c hc ad e j u hu
    injection e with e; subst e
    have hj := (List.getElem?_eq_some_iff.1 hu).1
    simp at hj
    rw [hc (by omega), Addr.add_lit]
    refine hk.out.row.cells rfl _ _ ?_
    rw [List.getElem?_map, List.getElem?_drop] at hu
    rw [List.getElem?_map]
    exact hu
  have hrl : (l.drop n).length = l.length - n := List.length_drop
  by_cases hcn : cap = n
  · have hcn2 := hcn.symm
    subst hcn2
    have hcl' := stkCloneI (w := w) (ao := some ⟨g, 0, none⟩) (n := 0) (cap := 0) (xs := []) (by simp) (by simp) (by simp) (by simp) (by omega)
    have HCL := Lib.hid hcl'
    have HZ := Lib.hid (show l.length - n = 0 from by omega)
    have HD := Lib.hid (show l.drop n = [] from List.drop_eq_nil_of_le (by omega))
    clear hcells h hcl'
    go_enter Try.func34, Try.ntmps34
    go_wp2_with fail
    refine HCL.out.mono ?_
    rintro e w1 ⟨v, rfl, hv, hfr, T1⟩
    have hrv := revI (w := w1) (v := v) (xs := []) hv (by simp)
    have HRV := Lib.hid hrv
    obtain ⟨av, capv, rfl⟩ := hv.shape
    clear hrv
    go_wp2_with fail
    refine HRV.out.mono ?_
    rintro e w2 ⟨rfl, hv2, T2⟩
    have T12 := T1.step T2 (fun i hi e => by have := hfr i e; omega)
    have d1 := T12.cell0 c1
    have f2 := T12.frozen lsb f1 (fun f => f)
    have hrow2 := hk.out.row.turned0 T12
    clear c0 c1 f1
    go_wp2_with (first
      | (refine clear_none _ rfl (.tmp 32) 55 rfl 3 Try.underlying55 _ _ _ rfl rfl ?_))
    go_ret2
    have hrow3 := hrow2.take (m := n) (c := n) hn (Nat.le_refl _) (Nat.le_refl _)
    rw [Nat.mul_one] at hrow3
    obtain ⟨r1, r2⟩ := undo_closeI hk.out hn T12 (Turned.refl _ _) hrow3
    refine ⟨_, _, rfl, ?_, hfr, r1, rfl, r2⟩
    rw [HZ.out, HD.out]
    exact hv2.setCell (p := ⟨sb, 1, none⟩) (fun e => by have q : w.heap.size ≤ sb := hfr _ e; omega) _
  · have hcl' := stkCloneI (w := w) (ao := some ⟨g, n, none⟩) (n := l.length - n) (cap := cap - n) (xs := (l.drop n).map (Value.int .i64)) (by simp) (by simp) (hcells n (fun _ => rfl)) (onesI _) (by omega)
    have HCL := Lib.hid hcl'
    clear hcells h hcl'
    go_enter Try.func34, Try.ntmps34
    go_wp2_with fail
    refine HCL.out.mono ?_
    rintro e w1 ⟨v, rfl, hv, hfr, T1⟩
    have hrv := revI (w := w1) (v := v) (xs := l.drop n) (by rw [hrl]; exact hv) (by omega)
    rw [hrl] at hrv
    have HRV := Lib.hid hrv
    obtain ⟨av, capv, rfl⟩ := hv.shape
    clear hrv
    go_wp2_with fail
    refine HRV.out.mono ?_
    rintro e w2 ⟨rfl, hv2, T2⟩
    have T12 := T1.step T2 (fun i hi e => by have := hfr i e; omega)
    have d1 := T12.cell0 c1
    have f2 := T12.frozen lsb f1 (fun f => f)
    have hrow2 := hk.out.row.turned0 T12
    have lsb2 : sb < w2.heap.size := by have := T12.size; omega
    clear c0 c1 f1
    go_wp2_with (first
      | (refine clear_row _ rfl (.tmp 32) 55 rfl 3 (.int .i64 0) Try.underlying55 zeroVI rfl rfl g l.length cap n _ (l.length - n) _ hrow2 (by omega) rfl ?_; intro w3 hrow3 T3; have e1 := T3.cell d1 hgs; have f3 := T3.frozen lsb2 f2 hgs; clear d1 f2))

    go_ret2
    obtain ⟨r1, r2⟩ := undo_closeI hk.out hn T12 T3 hrow3
    refine ⟨_, _, rfl, ?_, hfr, r1, rfl, r2⟩
    exact (hv2.turned T3 (fun k e s => by have := hfr k e; have s : k = g := s; omega)).setCell (p := ⟨sb, 1, none⟩) (fun e => by have q : w.heap.size ≤ sb := hfr _ e; omega) _

set_option maxHeartbeats 1000000 in
theorem stkUndoI_nil {w : World} {B sb room : Nat} (h : StkI w B sb room (.slice none 0 0) []) :
    Calls Try.prog 34 #[.pointer (some ⟨sb, 0, none⟩), .int .i64 0] w fun e w' => e = .returned (.tuple #[.slice none 0 0, .bool true]) ∧ StkI w' B sb room (.slice none 0 0) [] ∧ Turned (Mine2 sb (.slice none 0 0)) w w' := by
  have hk := Lib.hid h
  obtain ⟨c0, c1, f1⟩ := rec2_cells h.blk
  have HCL := Lib.hid (stkCloneI_nil w)
  have hrv := revI (w := w) (v := .slice none 0 0) (xs := []) (Row.nil _ _ _) (by simp)
  have HRV := Lib.hid hrv
  have lsb := (Array.getElem?_eq_some_iff.1 h.blk).1
  clear h hrv
  go_enter Try.func34, Try.ntmps34
  go_wp2_with fail
  refine HCL.out.mono ?_
  rintro e w1 ⟨rfl, rfl⟩
  go_wp2_with fail
  refine HRV.out.mono ?_
  rintro e w2 ⟨rfl, hv2, T2⟩
  have T3 : Turned (fun _ => False) w w2 := T2.mono (fun i _ e => by simp [Value.ownBlock] at e)
  have d1 := T3.cell0 c1
  have f2 := T3.frozen lsb f1 (fun f => f)
  clear c0 c1 f1
  go_wp2_with (first
    | (refine clear_none _ rfl (.tmp 32) 55 rfl 3 Try.underlying55 _ _ _ rfl rfl ?_))
  go_ret2
  have h2 := hk.out.turned0 T3
  exact ⟨rfl, ⟨h2.base, h2.baseR, rec2_set h2.blk _, Row.nil _ _ _, h2.apart, h2.room1, h2.room2, h2.len⟩, (T3.mono (fun _ _ f => f.elim)).setCell (.inr (.inl rfl)) _⟩

/-- Undo to a mark that may be, whatever the row. -/
theorem stkUndoI {w : World} {B sb room : Nat} {lv : Value} {l : List Int} (h : StkI w B sb room lv l) (n : Nat) (hn : n ≤ l.length) :
    Calls Try.prog 34 #[.pointer (some ⟨sb, 0, none⟩), .int .i64 n] w fun e w' => ∃ v lv', e = .returned (.tuple #[v, .bool true]) ∧ Row w' 3 1 v (l.length - n) ((l.drop n).map (Value.int .i64)).reverse ∧ (∀ k, v.ownBlock = some k → w.heap.size ≤ k) ∧
      StkI w' B sb room lv' (l.take n) ∧ lv'.ownBlock = lv.ownBlock ∧ Turned (Mine2 sb lv) w w' := by
  rcases h.row.2 with ⟨rfl, hl⟩ | ⟨g, cap, cur, rfl, _⟩
  · obtain rfl : l = [] := List.eq_nil_of_length_eq_zero hl
    obtain rfl : n = 0 := by simpa using hn
    refine (stkUndoI_nil h).mono fun e w' ⟨he, h1, h2⟩ => ⟨_, _, he, by simpa using Row.nil _ _ _, by simp [Value.ownBlock], by simpa using h1, rfl, h2⟩
  · exact stkUndoI_some h n hn

set_option maxHeartbeats 400000 in
theorem stkPopI {w : World} {B sb room : Nat} {lv : Value} {l : List Int} {x : Int} (h : StkI w B sb room lv (l ++ [x])) :
    Calls Try.prog 33 #[.pointer (some ⟨sb, 0, none⟩)] w fun e w' => e = .returned (.tuple #[(Value.int .i64) x, .bool true]) ∧ ∃ lv', StkI w' B sb room lv' l ∧ lv'.ownBlock = lv.ownBlock ∧ Turned (Mine2 sb lv) w w' := by
  have htop := Lib.hid (stkTopI_hit h)
  have hund := stkUndoI h l.length (by simp)
  rw [show (l ++ [x]).take l.length = l from by simp] at hund
  have HU := Lib.hid hund
  have hl := h.len
  have hr := h.room2
  obtain ⟨a, cap, rfl⟩ := h.row.shape
  obtain ⟨c0, c1, f1⟩ := rec2_cells h.blk
  simp at c1 hl
  clear h hund
  go_enter Try.func33, Try.ntmps33
  go_wp2_with fail
  refine htop.out.mono ?_
  rintro e w1 ⟨rfl, rfl⟩
  go_wp2_with fail
  refine HU.out.mono ?_
  rintro e w1 ⟨v, lv', rfl, hv, hfr, hs, hlv, hT⟩
  go_wp2
  go_ret2
  exact ⟨rfl, lv', hs, by simpa using hlv, by simpa using hT⟩

set_option maxHeartbeats 400000 in
theorem stkPopI_none {w : World} {B sb room : Nat} {lv : Value} (h : StkI w B sb room lv []) :
    Calls Try.prog 33 #[.pointer (some ⟨sb, 0, none⟩)] w fun e w' => e = .returned (.tuple #[Value.int .i64 0, .bool false]) ∧ w = w' := by
  have htop := Lib.hid (stkTopI_miss h)
  clear h
  go_enter Try.func33, Try.ntmps33
  go_wp2_with fail
  refine htop.out.mono ?_
  rintro e w1 ⟨rfl, rfl⟩
  go_wp2
  go_ret2
  exact ⟨rfl, rfl⟩

theorem zeroVS (w : World) : (zeroValue 9).run Try.prog w = .ok (.string ByteArray.empty) w := by kernel_rfl

set_option maxHeartbeats 400000 in
theorem stkCloneS_some {w : World} {ad : Addr} {n cap : Nat} {xs : List Value} (hl : xs.length = n * 1) (hcells : ∀ j u, xs[j]? = some u → w.cell? (ad.add j) = some u) (hx : ∀ x ∈ xs, x.oneCell' = true) (hn : n ≤ 65536) :
    Calls Try.prog 39 #[.slice (some ad) n cap] w fun e w' => ∃ v, e = .returned v ∧ Row w' 9 1 v n xs ∧ (∀ k, v.ownBlock = some k → w.heap.size ≤ k) ∧ Turned (fun _ => False) w w' := by
  obtain ⟨i0, hi0, hz0, hz1, hz2⟩ := info_parts stkInfoS
  have hnil := fun (w : World) (a : Option Addr) (n c : Nat) => Lib.run_eql_slice_nil (P := Try.prog) w 31 9 a n c 0 0 Try.underlying31
  have hc' : ∀ o : Obj, ∀ j u, xs[j]? = some u → (w.alloc o).cell? (ad.add j) = some u := fun o j u h => cell_old (hcells j u h)
  have HC := Lib.hid hc'
  clear hcells hc'
  go_enter Try.func39, Try.ntmps39
  go_wp2_with (first
    | (at_builtin; refine append_row _ rfl _ _ 31 rfl 9 i0 (.string ByteArray.empty) 1 16 Try.underlying31 hi0 hz0 hz1 hz2 rfl (by decide) _ _ _ rfl (Row.made _ 9 1 #[] 0 rfl (by simp)) ad n cap xs rfl hl (HC.out _) hx (by unfold maxLen; omega) (by omega) ?_; intro v2 w2 hown2 hg2 hl2 _))
  go_ret
  refine ⟨_, rfl, by simpa using hown2, ?_, ((Turned.refl (fun _ => False) w).alloc (.cells #[] 9)).step hg2 ?_⟩
  · intro k hk
    change v2.ownBlock = some k at hk
    rcases hl2 with e | e
    · rw [hk] at e; simp [Value.ownBlock, Act.eval] at e; omega
    · rw [hk] at e; simp at e; omega
  · intro k hk1 hk
    simp [Value.ownBlock, Act.eval] at hk
    omega

set_option maxHeartbeats 400000 in
theorem stkCloneS_nil (w : World) :
    Calls Try.prog 39 #[.slice none 0 0] w fun e w' => e = .returned (.slice none 0 0) ∧ w = w' := by
  have hnil := fun (w : World) (a : Option Addr) (n c : Nat) => Lib.run_eql_slice_nil (P := Try.prog) w 31 9 a n c 0 0 Try.underlying31
  go_enter Try.func39, Try.ntmps39
  go_wp2
  go_ret
  exact ⟨rfl, rfl⟩

/-- Clone of a slice of whatever make. -/
theorem stkCloneS {w : World} {ao : Option Addr} {n cap : Nat} {xs : List Value} (hnone : ao = none → n = 0 ∧ cap = 0) (hl : xs.length = n) (hcells : ∀ ad, ao = some ad → ∀ j u, xs[j]? = some u → w.cell? (ad.add j) = some u) (hx : ∀ x ∈ xs, x.oneCell' = true) (hn : n ≤ 65536) :
    Calls Try.prog 39 #[.slice ao n cap] w fun e w' => ∃ v, e = .returned v ∧ Row w' 9 1 v n xs ∧ (∀ k, v.ownBlock = some k → w.heap.size ≤ k) ∧ Turned (fun _ => False) w w' := by
  cases ao with
  | some ad => exact stkCloneS_some (by rw [Nat.mul_one]; exact hl) (hcells ad rfl) hx hn
  | none =>
    obtain ⟨rfl, rfl⟩ := hnone rfl
    have : xs = [] := List.eq_nil_of_length_eq_zero hl
    subst this
    exact (stkCloneS_nil w).mono fun e w' ⟨he, hw⟩ => hw ▸ ⟨_, he, Row.nil _ _ _, by simp [Value.ownBlock], Turned.refl _ _⟩

set_option maxHeartbeats 400000 in
theorem stkUndoS_no {w : World} {B sb room : Nat} {lv : Value} {l : List ByteArray} (h : StkS w B sb room lv l) (n : Int) (hn : n < 0 ∨ (l.length : Int) < n) :
    Calls Try.prog 29 #[.pointer (some ⟨sb, 0, none⟩), .int .i64 n] w fun e w' => e = .returned (.tuple #[.slice none 0 0, .bool false]) ∧ w = w' := by
  obtain ⟨a, cap, rfl⟩ := h.row.shape
  have hr := h.room2
  have hl := h.len
  obtain ⟨c0, c1, _⟩ := rec2_cells h.blk
  clear h
  by_cases h0 : n < 0
  · go_enter Try.func29, Try.ntmps29
    go_wp2

    go_ret2
    exact ⟨rfl, rfl⟩
  · have h1 : (l.length : Int) < n := by omega
    have h2 : 0 ≤ n := by omega
    clear hn h0
    go_enter Try.func29, Try.ntmps29
    go_wp2

    go_ret2
    exact ⟨rfl, rfl⟩

theorem undo_closeS {w w1 w2 : World} {B sb room cap g n : Nat} {l : List ByteArray} (h : StkS w B sb room (.slice (some ⟨g, 0, none⟩) l.length cap) l) (hn : n ≤ l.length)
    (T1 : Turned (fun _ => False) w w1) (T2 : Turned (· = g) w1 w2) (hrow : Row w2 9 1 (.slice (some ⟨g, 0, none⟩) n cap) n ((l.map Value.string).take n)) :
    StkS (w2.setCell ⟨sb, 1, none⟩ (.slice (some ⟨g, 0, none⟩) n cap)) B sb room (.slice (some ⟨g, 0, none⟩) n cap) (l.take n) ∧ Turned (Mine2 sb (.slice (some ⟨g, 0, none⟩) l.length cap)) w (w2.setCell ⟨sb, 1, none⟩ (.slice (some ⟨g, 0, none⟩) n cap)) := by
  have hgs : g ≠ sb := fun e => h.apart (by rw [e]; rfl)
  have lsb := (Array.getElem?_eq_some_iff.1 h.blk).1
  have hl := h.len
  have hlen : (l.take n).length = n := by rw [List.length_take]; omega
  have blk2 := (T2.block sb (Nat.lt_of_lt_of_le lsb T1.size) (fun e => hgs e.symm)).trans ((T1.block sb lsb (fun f => f)).trans h.blk)
  refine ⟨⟨h.base, fun k hk => h.baseR k hk, rec2_set blk2 _, ?_, by simp [Value.ownBlock]; exact hgs, h.room1, h.room2, by omega⟩, ?_⟩
  · rw [hlen, List.map_take]
    exact hrow.setCell (p := ⟨sb, 1, none⟩) (by simp [Value.ownBlock]; exact hgs) _
  · exact Turned.setCell (((T1.mono (fun _ _ f => f.elim))).step (T := (· = g)) T2 (fun i _ e => .inr (by rw [e]; rfl))) (.inr (.inl rfl)) _

set_option maxHeartbeats 1000000 in
theorem stkUndoS_some {w : World} {B sb room g cap : Nat} {l : List ByteArray} (h : StkS w B sb room (.slice (some ⟨g, 0, none⟩) l.length cap) l) (n : Nat) (hn : n ≤ l.length) :
    Calls Try.prog 29 #[.pointer (some ⟨sb, 0, none⟩), .int .i64 n] w fun e w' => ∃ v lv', e = .returned (.tuple #[v, .bool true]) ∧ Row w' 9 1 v (l.length - n) ((l.drop n).map Value.string).reverse ∧ (∀ k, v.ownBlock = some k → w.heap.size ≤ k) ∧
      StkS w' B sb room lv' (l.take n) ∧ lv'.ownBlock = some g ∧ Turned (Mine2 sb (.slice (some ⟨g, 0, none⟩) l.length cap)) w w' := by
  have hk := Lib.hid h
  have hr := h.room2
  have hl := h.len
  obtain ⟨c0, c1, f1⟩ := rec2_cells h.blk
  have lsb := (Array.getElem?_eq_some_iff.1 h.blk).1
  have lg := h.row.lt g rfl
  have hcl : l.length ≤ cap := by
    rcases h.row.2 with ⟨e, _⟩ | ⟨_, _, _, e, _, hh, _⟩
    · cases e
    · injection e with _ _ e; omega
  have hd : decide ((n : Int) < 0) = false := by simp
  have hd2 : decide (l.length < n) = false := by simp; omega
  have hgs : ¬ sb = g := fun e => h.apart (by rw [e]; rfl)
  have hcells : ∀ c, (¬ cap = n → c = n) → ∀ ad, some (⟨g, c, none⟩ : Addr) = some ad → ∀ j u, ((l.drop n).map Value.string)[j]? = some u → w.cell? (ad.add j) = some u := by
    intro c hc ad e j u hu
    injection e with e; subst e
    have hj := (List.getElem?_eq_some_iff.1 hu).1
    simp at hj
    rw [hc (by omega), Addr.add_lit]
    refine hk.out.row.cells rfl _ _ ?_
    rw [List.getElem?_map, List.getElem?_drop] at hu
    rw [List.getElem?_map]
    exact hu
  have hrl : (l.drop n).length = l.length - n := List.length_drop
  by_cases hcn : cap = n
  · have hcn2 := hcn.symm
    subst hcn2
    have hcl' := stkCloneS (w := w) (ao := some ⟨g, 0, none⟩) (n := 0) (cap := 0) (xs := []) (by simp) (by simp) (by simp) (by simp) (by omega)
    have HCL := Lib.hid hcl'
    have HZ := Lib.hid (show l.length - n = 0 from by omega)
    have HD := Lib.hid (show l.drop n = [] from List.drop_eq_nil_of_le (by omega))
    clear hcells h hcl'
    go_enter Try.func29, Try.ntmps29
    go_wp2_with fail
    refine HCL.out.mono ?_
    rintro e w1 ⟨v, rfl, hv, hfr, T1⟩
    have hrv := revS (w := w1) (v := v) (xs := []) hv (by simp)
    have HRV := Lib.hid hrv
    obtain ⟨av, capv, rfl⟩ := hv.shape
    clear hrv
    go_wp2_with fail
    refine HRV.out.mono ?_
    rintro e w2 ⟨rfl, hv2, T2⟩
    have T12 := T1.step T2 (fun i hi e => by have := hfr i e; omega)
    have d1 := T12.cell0 c1
    have f2 := T12.frozen lsb f1 (fun f => f)
    have hrow2 := hk.out.row.turned0 T12
    clear c0 c1 f1
    go_wp2_with (first
      | (refine clear_none _ rfl (.tmp 32) 31 rfl 9 Try.underlying31 _ _ _ rfl rfl ?_))
    go_ret2
    have hrow3 := hrow2.take (m := n) (c := n) hn (Nat.le_refl _) (Nat.le_refl _)
    rw [Nat.mul_one] at hrow3
    obtain ⟨r1, r2⟩ := undo_closeS hk.out hn T12 (Turned.refl _ _) hrow3
    refine ⟨_, _, rfl, ?_, hfr, r1, rfl, r2⟩
    rw [HZ.out, HD.out]
    exact hv2.setCell (p := ⟨sb, 1, none⟩) (fun e => by have q : w.heap.size ≤ sb := hfr _ e; omega) _
  · have hcl' := stkCloneS (w := w) (ao := some ⟨g, n, none⟩) (n := l.length - n) (cap := cap - n) (xs := (l.drop n).map Value.string) (by simp) (by simp) (hcells n (fun _ => rfl)) (onesS _) (by omega)
    have HCL := Lib.hid hcl'
    clear hcells h hcl'
    go_enter Try.func29, Try.ntmps29
    go_wp2_with fail
    refine HCL.out.mono ?_
    rintro e w1 ⟨v, rfl, hv, hfr, T1⟩
    have hrv := revS (w := w1) (v := v) (xs := l.drop n) (by rw [hrl]; exact hv) (by omega)
    rw [hrl] at hrv
    have HRV := Lib.hid hrv
    obtain ⟨av, capv, rfl⟩ := hv.shape
    clear hrv
    go_wp2_with fail
    refine HRV.out.mono ?_
    rintro e w2 ⟨rfl, hv2, T2⟩
    have T12 := T1.step T2 (fun i hi e => by have := hfr i e; omega)
    have d1 := T12.cell0 c1
    have f2 := T12.frozen lsb f1 (fun f => f)
    have hrow2 := hk.out.row.turned0 T12
    have lsb2 : sb < w2.heap.size := by have := T12.size; omega
    clear c0 c1 f1
    go_wp2_with (first
      | (refine clear_row _ rfl (.tmp 32) 31 rfl 9 (.string ByteArray.empty) Try.underlying31 zeroVS rfl rfl g l.length cap n _ (l.length - n) _ hrow2 (by omega) rfl ?_; intro w3 hrow3 T3; have e1 := T3.cell d1 hgs; have f3 := T3.frozen lsb2 f2 hgs; clear d1 f2))

    go_ret2
    obtain ⟨r1, r2⟩ := undo_closeS hk.out hn T12 T3 hrow3
    refine ⟨_, _, rfl, ?_, hfr, r1, rfl, r2⟩
    exact (hv2.turned T3 (fun k e s => by have := hfr k e; have s : k = g := s; omega)).setCell (p := ⟨sb, 1, none⟩) (fun e => by have q : w.heap.size ≤ sb := hfr _ e; omega) _

set_option maxHeartbeats 1000000 in
theorem stkUndoS_nil {w : World} {B sb room : Nat} (h : StkS w B sb room (.slice none 0 0) []) :
    Calls Try.prog 29 #[.pointer (some ⟨sb, 0, none⟩), .int .i64 0] w fun e w' => e = .returned (.tuple #[.slice none 0 0, .bool true]) ∧ StkS w' B sb room (.slice none 0 0) [] ∧ Turned (Mine2 sb (.slice none 0 0)) w w' := by
  have hk := Lib.hid h
  obtain ⟨c0, c1, f1⟩ := rec2_cells h.blk
  have HCL := Lib.hid (stkCloneS_nil w)
  have hrv := revS (w := w) (v := .slice none 0 0) (xs := []) (Row.nil _ _ _) (by simp)
  have HRV := Lib.hid hrv
  have lsb := (Array.getElem?_eq_some_iff.1 h.blk).1
  clear h hrv
  go_enter Try.func29, Try.ntmps29
  go_wp2_with fail
  refine HCL.out.mono ?_
  rintro e w1 ⟨rfl, rfl⟩
  go_wp2_with fail
  refine HRV.out.mono ?_
  rintro e w2 ⟨rfl, hv2, T2⟩
  have T3 : Turned (fun _ => False) w w2 := T2.mono (fun i _ e => by simp [Value.ownBlock] at e)
  have d1 := T3.cell0 c1
  have f2 := T3.frozen lsb f1 (fun f => f)
  clear c0 c1 f1
  go_wp2_with (first
    | (refine clear_none _ rfl (.tmp 32) 31 rfl 9 Try.underlying31 _ _ _ rfl rfl ?_))
  go_ret2
  have h2 := hk.out.turned0 T3
  exact ⟨rfl, ⟨h2.base, h2.baseR, rec2_set h2.blk _, Row.nil _ _ _, h2.apart, h2.room1, h2.room2, h2.len⟩, (T3.mono (fun _ _ f => f.elim)).setCell (.inr (.inl rfl)) _⟩

/-- Undo to a mark that may be, whatever the row. -/
theorem stkUndoS {w : World} {B sb room : Nat} {lv : Value} {l : List ByteArray} (h : StkS w B sb room lv l) (n : Nat) (hn : n ≤ l.length) :
    Calls Try.prog 29 #[.pointer (some ⟨sb, 0, none⟩), .int .i64 n] w fun e w' => ∃ v lv', e = .returned (.tuple #[v, .bool true]) ∧ Row w' 9 1 v (l.length - n) ((l.drop n).map Value.string).reverse ∧ (∀ k, v.ownBlock = some k → w.heap.size ≤ k) ∧
      StkS w' B sb room lv' (l.take n) ∧ lv'.ownBlock = lv.ownBlock ∧ Turned (Mine2 sb lv) w w' := by
  rcases h.row.2 with ⟨rfl, hl⟩ | ⟨g, cap, cur, rfl, _⟩
  · obtain rfl : l = [] := List.eq_nil_of_length_eq_zero hl
    obtain rfl : n = 0 := by simpa using hn
    refine (stkUndoS_nil h).mono fun e w' ⟨he, h1, h2⟩ => ⟨_, _, he, by simpa using Row.nil _ _ _, by simp [Value.ownBlock], by simpa using h1, rfl, h2⟩
  · exact stkUndoS_some h n hn

set_option maxHeartbeats 400000 in
theorem stkPopS {w : World} {B sb room : Nat} {lv : Value} {l : List ByteArray} {x : ByteArray} (h : StkS w B sb room lv (l ++ [x])) :
    Calls Try.prog 27 #[.pointer (some ⟨sb, 0, none⟩)] w fun e w' => e = .returned (.tuple #[Value.string x, .bool true]) ∧ ∃ lv', StkS w' B sb room lv' l ∧ lv'.ownBlock = lv.ownBlock ∧ Turned (Mine2 sb lv) w w' := by
  have htop := Lib.hid (stkTopS_hit h)
  have hund := stkUndoS h l.length (by simp)
  rw [show (l ++ [x]).take l.length = l from by simp] at hund
  have HU := Lib.hid hund
  have hl := h.len
  have hr := h.room2
  obtain ⟨a, cap, rfl⟩ := h.row.shape
  obtain ⟨c0, c1, f1⟩ := rec2_cells h.blk
  simp at c1 hl
  clear h hund
  go_enter Try.func27, Try.ntmps27
  go_wp2_with fail
  refine htop.out.mono ?_
  rintro e w1 ⟨rfl, rfl⟩
  go_wp2_with fail
  refine HU.out.mono ?_
  rintro e w1 ⟨v, lv', rfl, hv, hfr, hs, hlv, hT⟩
  go_wp2
  go_ret2
  exact ⟨rfl, lv', hs, by simpa using hlv, by simpa using hT⟩

set_option maxHeartbeats 400000 in
theorem stkPopS_none {w : World} {B sb room : Nat} {lv : Value} (h : StkS w B sb room lv []) :
    Calls Try.prog 27 #[.pointer (some ⟨sb, 0, none⟩)] w fun e w' => e = .returned (.tuple #[Value.string ByteArray.empty, .bool false]) ∧ w = w' := by
  have htop := Lib.hid (stkTopS_miss h)
  clear h
  go_enter Try.func27, Try.ntmps27
  go_wp2_with fail
  refine htop.out.mono ?_
  rintro e w1 ⟨rfl, rfl⟩
  go_wp2
  go_ret2
  exact ⟨rfl, rfl⟩

set_option maxHeartbeats 400000 in
theorem stkAllI {w : World} {B sb room : Nat} {lv : Value} {l : List Int} (h : StkI w B sb room lv l) :
    Calls Try.prog 38 #[.pointer (some ⟨sb, 0, none⟩)] w fun e w' => ∃ v, e = .returned v ∧ Row w' 3 1 v l.length (l.map (Value.int .i64)) ∧ (∀ k, v.ownBlock = some k → w.heap.size ≤ k) ∧ Turned (fun _ => False) w w' := by
  have hl := h.len
  have hr := h.room2
  obtain ⟨a, cap, rfl⟩ := h.row.shape
  obtain ⟨c0, c1, f1⟩ := rec2_cells h.blk
  have HCL := Lib.hid (stkCloneI (w := w) (ao := a) (n := l.length) (cap := cap) (xs := l.map (Value.int .i64)) (h.row.source h.row).1 (by simp) (h.row.source h.row).2 (onesI _) (by omega))
  clear h
  go_enter Try.func38, Try.ntmps38
  go_wp2_with fail
  refine HCL.out.mono ?_
  rintro e w1 ⟨v, rfl, hv, hf, hT⟩
  go_wp2
  go_ret
  exact ⟨_, rfl, hv, hf, hT⟩
end Go.Proofs.Ytifideminojgjaa
