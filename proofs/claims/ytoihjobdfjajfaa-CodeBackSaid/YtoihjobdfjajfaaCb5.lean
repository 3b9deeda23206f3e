/- Merged texts: BB2, DW5, DA1, DB7, DL2, BK1, BP0, DP2, DP3, DP4, MN1, Any7, PX1, Own96, RL6, MX0, BK94, Opens. -/
import Derived.Test.YtoihjobdfjajfaaCb4
import Derived.OwnWalk
import Derived.ProofKit
import Derived.Deep.Strs
import Derived.Lib.SmallJoins
set_option linter.unusedVariables false
set_option linter.unusedSimpArgs false
namespace Go.Proofs.Ytoihjobdfjajfaa
open Lib (hid)
open Go.RowKit Go.Shelf
attribute [local go_sem] Oper.semAt_some
theorem make_blanksB (n : Nat) (hn : n ≤ 5000) (W : World) : (Instr.makeSlice 22 (.int .i64 n) (.int .i64 n)).run Try.prog W = .ok (.slice (some ⟨W.heap.size, 0, none⟩) n n) (W.alloc (.cells (madeCells zeroT.cells (n * 4)) 27)) ∧
    Row (W.alloc (.cells (madeCells zeroT.cells (n * 4)) 27)) 27 4 (.slice (some ⟨W.heap.size, 0, none⟩) n n) n ((blanks n).flatMap LT.cells) := by
  obtain ⟨i0, hi0, hz0, hz1, hz2⟩ := info_parts infoT; refine ⟨?_, ?_⟩
  · have h := run_make (P := Try.prog) W 22 27 i0 zeroT Try.underlying22 hi0 hz0 .i64 .i64 n n (by omega) (Int.le_refl _) (by rw [hz2]; omega) (by omega)
    rw [hz1] at h; simpa using h
  · have h := Row.made W 27 4 (madeCells zeroT.cells (n * 4)) n (size_madeCells _ _) (by unfold maxLen; omega)
    rw [made_blanksT] at h; exact h
theorem varV62b (n : Int) (hn : I64 n) (w : World) : Calls Try.prog 62 #[.int .i64 n] w fun e w' => e = .returned (.agg #[.int .i64 0, .int .i64 n, .string ByteArray.empty, .slice none 0 0]) ∧ Turned (fun _ => False) w w' :=
  (var62 n hn w).mono fun e w' h => ⟨h.1, h.2.2⟩
theorem intV61 (n : Int) (hn : I64 n) (w : World) : Calls Try.prog 61 #[.int .i64 n] w fun e w' => e = .returned (.agg #[.int .i64 1, .int .i64 n, .string ByteArray.empty, .slice none 0 0]) ∧ Turned (fun _ => False) w w' :=
  (int61 n hn w).mono fun e w' h => ⟨h.1, h.2.2⟩
theorem atomV63b (s : ByteArray) (hs : s.size ≤ maxLen) (w : World) : Calls Try.prog 63 #[.string s] w fun e w' => e = .returned (.agg #[.int .i64 2, .int .i64 0, .string s, .slice none 0 0]) ∧ Turned (fun _ => False) w w' :=
  (atom63 s hs w).mono fun e w' h => ⟨h.1, h.2.2⟩
def foldR (L : List Tm.Stp) (rs : List (Tm Unit)) (pre : List Nat) : List (Tm Unit) := pre.foldl (fun rs q => rs.set (idx L.length q) (Tm.madeS (L.getD (idx L.length q) noS) rs)) rs
theorem foldR_snoc (L : List Tm.Stp) (rs : List (Tm Unit)) (pre : List Nat) (q : Nat) : foldR L rs (pre ++ [q]) = (foldR L rs pre).set (idx L.length q) (Tm.madeS (L.getD (idx L.length q) noS) (foldR L rs pre)) := by
  unfold foldR; rw [List.foldl_append]; rfl
theorem foldR_all (L : List Tm.Stp) (rs : List (Tm Unit)) : foldR L rs (List.range L.length).reverse = Tm.backs L 0 rs := by
  have key : ∀ j i, i + j = L.length → foldR L rs ((List.range' i j).reverse) = Tm.backs (L.drop i) i rs := by
    intro j
    induction j with
    | zero =>
      intro i hi; rw [List.drop_eq_nil_of_le (by omega)]; rfl
    | succ j ih =>
      intro i hi
      have hl : i < L.length := by omega
      rw [List.range'_succ, List.reverse_cons, foldR_snoc, ih (i + 1) (by omega), List.drop_eq_getElem_cons hl, idx_of hl]
      have hgd : L.getD i noS = L[i] := by rw [List.getD_eq_getElem?_getD, List.getElem?_eq_getElem hl]; rfl
      rw [hgd]; rfl
  have := key L.length 0 (by omega); rw [List.range_eq_range']; exact this
def BackI (w : World) (gr B0 B6 : Nat) (C0 : Array Value) (L : List Tm.Stp) (pre : List Nat) (W : World) : Prop :=
  ∃ rs : List LT, rs.map Tm.bare = foldR L (List.replicate L.length (Tm.V 0)) pre ∧ Row W 27 4 (.slice (some ⟨gr, 0, none⟩) L.length L.length) L.length (rs.flatMap LT.cells) ∧ (∀ x ∈ rs, x.In (fun k => k ≠ gr ∧ k ≠ w.heap.size + 1) W) ∧
    W.heap[B0]? = some (.cells C0 104 (0, 0)) ∧ W.heap[B0 + 1]? = some (.cells #[.int .i64 0, .int .i64 0, .string ⟨#[]⟩, .slice none 0 0] 27 (0, 0)) ∧ W.heap[B6]? = some (.cells #[.slice (some ⟨gr, 0, none⟩) L.length L.length] 22 (0, 0)) ∧ Turned (fun _ => False) w W
theorem Row.own_kept {w W : World} {e : TypeId} {size n : Nat} {v : Value} {xs : List Value} (h : Row w e size v n xs) (hk : ∀ (g : Nat) (c : Array Value) (T : TypeId) (z : Nat × Nat), w.heap[g]? = some (Obj.cells c T z) → W.heap[g]? = some (Obj.cells c T z)) : Row W e size v n xs := by
  refine ⟨h.1, ?_⟩
  rcases h.2 with h2 | ⟨g, cap, cur, h1, h2, h3⟩
  · exact .inl h2
  · exact .inr ⟨g, cap, cur, h1, hk _ _ _ _ h2, h3⟩
theorem backI_own {w : World} {B gr B0 B6 : Nat} {C0 : Array Value} {L : List Tm.Stp} (hB : w.heap.size ≤ B) : OwnFrom B (BackI w gr B0 B6 C0 L) := by
  rintro pre A B' row ⟨rs, h1, h2, h3, h4, h5, h6, h7⟩ hg hr
  have hr' := fun r e => (hr r e).2
  exact ⟨rs, h1, h2.own_kept (fun g c T z h => (grownBy_keeps_cells hg hr' h rfl).trans h), fun x hx => LT.In.kept (fun a v h => cell_kept h hg hr') x (h3 x hx), (grownBy_keeps_cells hg hr' h4 rfl).trans h4, (grownBy_keeps_cells hg hr' h5 rfl).trans h5, (grownBy_keeps_cells hg hr' h6 rfl).trans h6, h7.grown hg (fun k e => .inl (by have := (hr k e).1; omega))⟩
def store4 (W : World) (gr j : Nat) (a b c d : Value) : World := (((W.setCell ⟨gr, j * 4, none⟩ a).setCell ⟨gr, j * 4 + 1, none⟩ b).setCell ⟨gr, j * 4 + 2, none⟩ c).setCell ⟨gr, j * 4 + 3, none⟩ d
def StoreR (gr j : Nat) (a b c d : Value) (w0 : World) : List (Nat × Value) → World → Prop
  | [], W => Turned (fun _ => False) w0 W
  | [(6, _)], W => ∃ W1, Turned (fun _ => False) w0 W1 ∧ Turned (fun _ => False) (store4 W1 gr j a b c d) W
  | _, _ => False
theorem StoreR.turned0 {gr j : Nat} {a b c d : Value} {w0 : World} (hs : List (Nat × Value)) (w w' : World) (h : StoreR gr j a b c d w0 hs w) (T : Turned (fun _ => False) w w') : StoreR gr j a b c d w0 hs w' := by
  unfold StoreR at h ⊢
  split at h
  · exact h.trans T
  · obtain ⟨W1, h1, h2⟩ := h
    exact ⟨W1, h1, h2.trans T⟩
  · exact h.elim
theorem StoreR.early {gr j : Nat} {a b c d : Value} {w0 : World} {hs : List (Nat × Value)} {W : World} (h : StoreR gr j a b c d w0 hs W) (hn : ∀ v, (6, v) ∉ hs) : hs = [] ∧ Turned (fun _ => False) w0 W := by
  unfold StoreR at h
  split at h
  · exact ⟨rfl, h⟩
  · exact absurd (List.mem_singleton.2 rfl) (hn _)
  · exact h.elim
theorem StoreR.done {gr j : Nat} {a b c d : Value} {w0 : World} {hs : List (Nat × Value)} {W : World} {v : Value} (h : StoreR gr j a b c d w0 hs W) (hv : (6, v) ∈ hs) : ∃ W1, Turned (fun _ => False) w0 W1 ∧ Turned (fun _ => False) (store4 W1 gr j a b c d) W := by
  unfold StoreR at h
  split at h
  · cases hv
  · exact h
  · exact h.elim
theorem BackI.next {w W W1 W2 : World} {gr B0 B6 : Nat} {C0 : Array Value} {L : List Tm.Stp} {pre : List Nat} {q i : Nat} {s : Tm.Stp} {u : LT} {rs : List LT} (hw : w.heap.size ≤ gr) (hn1 : gr ≠ w.heap.size + 1) (hn0 : B0 ≠ gr) (hn2 : B0 + 1 ≠ gr) (hn6 : B6 ≠ gr) (hi : i = idx L.length q) (hil : i < L.length) (hs : s = L.getD i noS) (i1 : rs.map Tm.bare = foldR L (List.replicate L.length (Tm.V 0)) pre) (i2 : Row W 27 4 (.slice (some ⟨gr, 0, none⟩) L.length L.length) L.length (rs.flatMap LT.cells)) (i3 : ∀ x ∈ rs, x.In (fun k => k ≠ gr ∧ k ≠ w.heap.size + 1) W)
    (i4 : W.heap[B0]? = some (.cells C0 104 (0, 0))) (i5 : W.heap[B0 + 1]? = some (.cells #[.int .i64 0, .int .i64 0, .string ⟨#[]⟩, .slice none 0 0] 27 (0, 0))) (i6 : W.heap[B6]? = some (.cells #[.slice (some ⟨gr, 0, none⟩) L.length L.length] 22 (0, 0))) (i7 : Turned (fun _ => False) w W)
    (T1 : Turned (fun _ => False) W W1) (hu : u.In (fun k => k ≠ gr ∧ k ≠ w.heap.size + 1) W1) (hb : u.bare = Tm.madeS s (foldR L (List.replicate L.length (Tm.V 0)) pre)) (T2 : Turned (fun _ => False) (store4 W1 gr i (.int .i64 u.kind) (.int .i64 u.n) (.string u.name) (.slice u.at_.1 u.args.length u.at_.2)) W2) :
    Turned (fun k => k = gr) W W2 ∧ BackI w gr B0 B6 C0 L (pre ++ [q]) W2 := by
  have Tq : Turned (fun k => k = gr) W1 (store4 W1 gr i (.int .i64 u.kind) (.int .i64 u.n) (.string u.name) (.slice u.at_.1 u.args.length u.at_.2)) := turned_store4g W1 gr i _ _ _ _; have TW : Turned (fun k => k = gr) W W2 := ((T1.mono (fun _ _ f => f.elim)).trans Tq).trans (T2.mono (fun _ _ f => f.elim))
  have hrl : rs.length = L.length := by have := i2.1; rw [LT.flat_length] at this; omega
  refine ⟨TW, rs.set i u, ?_, ?_, fun x hx => ?_, (TW.block _ (Array.getElem?_eq_some_iff.1 i4).1 hn0).trans i4, (TW.block _ (Array.getElem?_eq_some_iff.1 i5).1 hn2).trans i5, (TW.block _ (Array.getElem?_eq_some_iff.1 i6).1 hn6).trans i6, i7.step TW (fun k hk e => by omega)⟩
  · rw [List.map_set, i1, hb, foldR_snoc, ← hi, ← hs]
  · have t1 := (i2.turned0 T1).setAt (off := i * 4) (by omega) (.int .i64 u.kind)
    have t2 := t1.setAt (off := i * 4 + 1) (by omega) (.int .i64 u.n); have t3 := t2.setAt (off := i * 4 + 2) (by omega) (.string u.name); have t4 := t3.setAt (off := i * 4 + 3) (by omega) (.slice u.at_.1 u.args.length u.at_.2); rw [flat_set (by omega)] at t4; exact t4.turned0 T2
  · have up : ∀ y : LT, y.In (fun k => k ≠ gr ∧ k ≠ w.heap.size + 1) W1 → y.In (fun k => k ≠ gr ∧ k ≠ w.heap.size + 1) W2 := fun y hy => (LT.In.turned Tq (fun k _ hk e => hk.1 e) (fun _ _ h => h) y hy).turned0 T2
    rcases List.mem_or_eq_of_mem_set hx with hx | rfl
    · exact up x ((i3 x hx).turned0 T1)
    · exact up _ hu
def CompR (gr j : Nat) (b : Tm Unit) (p : Nat → Prop) (w0 : World) : List (Nat × Value) → World → Prop
  | [], W => Turned (fun _ => False) w0 W
  | [(13, v)], W => Turned (fun _ => False) w0 W ∧ ∃ u : LT, v = .agg #[.int .i64 u.kind, .int .i64 u.n, .string u.name, .slice u.at_.1 u.args.length u.at_.2] ∧ u.bare = b ∧ u.In p W
  | [(13, _), (15, _)], W => ∃ (W1 : World) (u : LT), Turned (fun _ => False) w0 W1 ∧ u.bare = b ∧ u.In p W1 ∧ Turned (fun _ => False) (store4 W1 gr j (.int .i64 u.kind) (.int .i64 u.n) (.string u.name) (.slice u.at_.1 u.args.length u.at_.2)) W
  | _, _ => False
section
variable {gr j : Nat} {b : Tm Unit} {p : Nat → Prop} {w0 : World} {hs : List (Nat × Value)} {W W' : World}
theorem CompR.turned0 (hs : List (Nat × Value)) (W W' : World) (h : CompR gr j b p w0 hs W) (T : Turned (fun _ => False) W W') : CompR gr j b p w0 hs W' := by
  unfold CompR at h ⊢
  split at h
  · exact h.trans T
  · obtain ⟨h1, u, h2, h3, h4⟩ := h
    exact ⟨h1.trans T, u, h2, h3, h4.turned0 T⟩
  · obtain ⟨W1, u, h1, h2, h3, h4⟩ := h
    exact ⟨W1, u, h1, h2, h3, h4.trans T⟩
  · exact h.elim
theorem CompR.early (h : CompR gr j b p w0 hs W) (hn : ∀ v, (15, v) ∉ hs) : Turned (fun _ => False) w0 W := by
  unfold CompR at h
  split at h
  · exact h
  · exact h.1
  · exact absurd (List.mem_cons_of_mem _ (List.mem_singleton.2 rfl)) (hn _)
  · exact h.elim
theorem CompR.first (h : CompR gr j b p w0 hs W) (h13 : ∀ v, (13, v) ∉ hs) : hs = [] := by
  unfold CompR at h
  split at h
  · rfl
  · exact absurd (List.mem_singleton.2 rfl) (h13 _)
  · exact absurd (List.mem_cons_self ..) (h13 _)
  · exact h.elim
theorem CompR.second {v : Value} (h : CompR gr j b p w0 hs W) (h15 : ∀ v, (15, v) ∉ hs) (hv : (13, v) ∈ hs) : hs = [(13, v)] ∧ Turned (fun _ => False) w0 W ∧ ∃ u : LT, v = .agg #[.int .i64 u.kind, .int .i64 u.n, .string u.name, .slice u.at_.1 u.args.length u.at_.2] ∧ u.bare = b ∧ u.In p W := by
  unfold CompR at h
  split at h
  · cases hv
  · have e := List.mem_singleton.1 hv
    injection e with _ e
    subst e; exact ⟨rfl, h⟩
  · exact absurd (List.mem_cons_of_mem _ (List.mem_singleton.2 rfl)) (h15 _)
  · exact h.elim
theorem CompR.done {v : Value} (h : CompR gr j b p w0 hs W) (hv : (15, v) ∈ hs) : ∃ (W1 : World) (u : LT), Turned (fun _ => False) w0 W1 ∧ u.bare = b ∧ u.In p W1 ∧ Turned (fun _ => False) (store4 W1 gr j (.int .i64 u.kind) (.int .i64 u.n) (.string u.name) (.slice u.at_.1 u.args.length u.at_.2)) W := by
  unfold CompR at h
  split at h
  · cases hv
  · have e := List.mem_singleton.1 hv
    cases e
  · exact h
  · exact h.elim
end
theorem backComp37 {W : World} {gr R b c : Nat} {rs : List LT} {p : Nat → Prop} (r1 : Row W 27 4 (.slice (some ⟨gr, 0, none⟩) R R) R (rs.flatMap LT.cells)) (r3 : ∀ x ∈ rs, x.In p W) (s : ByteArray) (hs : s.size ≤ maxLen) (hc : c + b ≤ R) (hR : R ≤ 5000) :
    Calls Try.prog 37 #[.string s, .slice (some ⟨gr, c * 4, none⟩) b (R - c)] W fun e w' => ∃ u : LT, e = .returned (.agg #[.int .i64 u.kind, .int .i64 u.n, .string u.name, .slice u.at_.1 u.args.length u.at_.2]) ∧ u.bare = .mk 2 0 s () (((rs.map Tm.bare).drop c).take b) ∧ u.In (fun k => p k ∨ W.heap.size ≤ k) w' ∧ Turned (fun _ => False) W w' := by
  have e2 := r1.1; rw [LT.flat_length] at e2
  have hL : ((rs.drop c).take b).map Tm.bare = ((rs.map Tm.bare).drop c).take b := by rw [List.map_take, List.map_drop]
  have hlen : ((rs.drop c).take b).length = b := by rw [List.length_take, List.length_drop]; omega
  have hin : LT.Ins p W ((rs.drop c).take b) := (LT.ins_iff _).2 (fun y hy => r3 y (List.mem_of_mem_drop (List.mem_of_mem_take hy)))
  have hsl : LT.Sl (fun _ => True) W (some ⟨gr, c * 4, none⟩) (R - c) ((rs.drop c).take b) := by
    refine ⟨fun e => (by cases e), fun _ => ⟨gr, c * 4, rfl, trivial, fun j v hv => r1.cells rfl _ _ ?_⟩, LT.Ins.mono hin (fun _ _ _ => trivial), by rw [hlen]; omega, by unfold maxLen; omega⟩
    have hj : j < b * 4 := by
      have := (List.getElem?_eq_some_iff.1 hv).1; rw [LT.flat_length, hlen] at this; exact this
    have hf := (flat_take (rs.drop c) b (by rw [List.length_drop]; omega)).1; rw [hf, List.getElem?_take, if_pos hj, (flat_take rs c (by omega)).2, List.getElem?_drop] at hv; exact hv
  have hcl := comp37q (q := p) s hs hsl hin (by rw [hlen]; omega); rw [hlen] at hcl; refine hcl.mono ?_
  rintro e w' ⟨d, rfl, hy, T⟩
  refine ⟨_, by rw [LT.val_eq], ?_, hy, T⟩; rw [Tm.bare, Tm.bares_eq, hL]
def BackA (w : World) (t : LT) (gr B6 Bn : Nat) (aL : Option Addr) (cL : Nat) (L : List Tm.Stp) (q : Nat) (a' : Act) (W : World) : Prop :=
  ∃ (g i : Nat) (s : Tm.Stp), i = idx L.length q ∧ s = L.getD i noS ∧ a' = { tmps := #[.agg #[.int .i64 (t.args.length : Int), .int .i64 (t.vars.length : Int), .int .i64 (L.length : Int), .slice aL L.length cL], .string t.name, .pointer (some ⟨w.heap.size, 0, none⟩), undef, .pointer (some ⟨w.heap.size + 1, 0, none⟩), .int .i64 0, .pointer (some ⟨B6, 0, none⟩), .int .i64 i, .pointer (some ⟨g, 0, none⟩), undef, .agg #[.int .i64 (t.args.length : Int), .int .i64 (t.vars.length : Int), .int .i64 (L.length : Int), .slice aL L.length cL], .bool true, .bool false, undef, .pointer (some ⟨w.heap.size, 2, none⟩), .int .i64 L.length, .slice (some ⟨gr, 0, none⟩) L.length L.length, .pointer (some ⟨w.heap.size, 3, none⟩), .slice aL L.length cL, .func (.func 169) #[] #[.pointer (some ⟨Bn, 0, none⟩)], .int .i64 i, stW s, undef, undef, undef, undef, undef, undef, undef, undef, undef, undef, undef, undef, undef, undef, undef, undef, undef, undef, undef, undef, undef, undef, undef, undef, undef, undef, undef, undef, undef, undef, undef, undef, undef, undef, undef, undef, undef, undef, undef, undef, undef, undef, undef, undef, undef, undef, undef, undef, undef, undef, undef, undef, undef], defers := [] } ∧
    W.heap[g]? = some (.cells #[.string s.op, .int .i64 s.a, .int .i64 s.b, .int .i64 s.c, .int .i64 s.n, .string s.name] 139 (0, 0))
theorem backA_own {B : Nat} {w : World} {t : LT} {gr B6 Bn : Nat} {aL : Option Addr} {cL : Nat} {L : List Tm.Stp} (q : Nat) (a' : Act) : OwnFrom B (fun (_ : Unit) W => BackA w t gr B6 Bn aL cL L q a' W) := by
  rintro _ A B' row ⟨g, i, s, h0, h1, h2, h3⟩ hg hr
  exact ⟨g, i, s, h0, h1, h2, (grownBy_keeps_cells hg (fun r e => (hr r e).2) h3 rfl).trans h3⟩
set_option maxRecDepth 100000 in
set_option maxHeartbeats 6400000 in
theorem back94 {p : Nat → Prop} {t : LT} {w : World} {aL : Option Addr} {cL n : Nat} {L : List Tm.Stp} (hin : t.In p w) (hg : goodB t = true) (hk : t.kind = 2) (hn : n = Tm.sizes t.args) (hL : L = Tm.steps t.vars t.args n) (hr : Row w 139 6 (.slice aL L.length cL) L.length (L.flatMap stC)) :
    Calls Try.prog 94 #[.agg #[.int .i64 (t.args.length : Int), .int .i64 (t.vars.length : Int), .int .i64 (L.length : Int), .slice aL L.length cL], .string t.name] w fun e w' => ∃ u : LT, e = .returned (.tuple #[.agg #[.int .i64 u.kind, .int .i64 u.n, .string u.name, .slice u.at_.1 u.args.length u.at_.2], .int .i64 0]) ∧ u.bare = Tm.fromT t.bare 0 ∧ u.In (fun _ => True) w' ∧ Turned (fun _ => False) w w' := by
  have h2 := twoBox w (.cells #[.int .i64 (t.args.length : Int), .int .i64 (t.vars.length : Int), .int .i64 (L.length : Int), .slice aL L.length cL] 104) (.cells #[.int .i64 0, .int .i64 0, .string ⟨#[]⟩, .slice none 0 0] 27)
  have hlen : L.length = n := by rw [hL, Tm.steps_length]
  have hgood : ∀ W, Turned (fun _ => False) w W → Calls Try.prog 95 #[.agg #[.int .i64 (t.args.length : Int), .int .i64 (t.vars.length : Int), .int .i64 (L.length : Int), .slice aL L.length cL]] W fun e w' => e = .returned (.bool true) ∧ Turned (fun _ => False) W w' := fun W T => by
    have h := goodHead95' (lv := .slice aL L.length cL) (hin.turned0 T) hg hk (by rw [← hn, ← hL, ← hlen]; exact hr.turned0 T); rw [← hn, ← hlen] at h; exact h
  have hsz : L.length ≤ 5000 := by
    have h := hg; unfold goodB at h; simp only [Bool.and_eq_true, decide_eq_true_eq] at h; have := Tm.size_eq t; omega
  have H2 := hid h2; have HGOOD := hid hgood; have HIN := hid hin; have HR := hid hr; have HN := hid hn; have HL := hid hL; have HLEN := hid hlen; clear h2 hgood hin hr hn hL hlen; refine (callsIn_wide (n := 3)).1 ?_; refine callsIn_of_wp_marks Try.func94 rfl trivial ?_ rfl; simp only [Try.ntmps94, List.size_toArray, List.length_cons, List.length_nil, Nat.reduceAdd, Nat.reduceSub, Array.replicate_succ, Array.replicate_zero, List.push_toArray, List.append_toArray, List.nil_append, List.cons_append]
  gi_wp2_with (first
    | (refine ⟨trivial, ?_⟩; gi_at_call 95; refine (callsIn_wide.2 (HGOOD.out _ H2.out.1)).mono ?_; rintro e w3 ⟨rfl, T3⟩; have hb0 := (T3.block _ (by have := H2.out.2.1; omega) (fun f => f)).trans H2.out.2.2.1; have hb1 := (T3.block _ (by have := H2.out.2.1; omega) (fun f => f)).trans H2.out.2.2.2; obtain ⟨k0, k1, k2, k3, _⟩ := cells4 hb0; obtain ⟨ZZ, hZZ⟩ : ∃ z, z = madeCells zeroT.cells (L.length * 4) := ⟨_, rfl⟩; have hmk := (make_blanksB L.length hsz w3).1; rw [← hZZ] at hmk; have hmk2 := (make_blanksB L.length hsz w3).2; rw [← hZZ] at hmk2; have HMK := hid hmk2; clear hmk2; have HB0 := hid hb0; have HB1 := hid hb1; have HT3 := hid (H2.out.1.trans T3); obtain ⟨m0, m1, m2, m3, _⟩ := cells4 (((((Turned.refl (fun _ => False) w3).alloc (.cells ZZ 27)).alloc (.cells #[.slice (some ⟨w3.heap.size, 0, none⟩) L.length L.length] 22)).block _ (Array.getElem?_eq_some_iff.1 hb0).1 (fun f => f)).trans hb0); clear hb0 hb1 T3 hZZ)
    | (refine ⟨trivial, ?_⟩; gi_at_call 148; refine (back148 Fence.wide _ trivial rfl _ _ _ _).mono ?_; rintro e w' ⟨rfl, rfl⟩))
  have hT4 : Turned (fun _ => False) w3 (((w3.alloc (.cells ZZ 27)).alloc (.cells #[.slice (some ⟨w3.heap.size, 0, none⟩) L.length L.length] 22)).alloc (.cells #[.slice aL L.length cL] 102)) := (((Turned.refl (fun _ => False) w3).alloc _).alloc _).alloc _; have h3 := three_boxes w3 (.cells ZZ 27) (.cells #[.slice (some ⟨w3.heap.size, 0, none⟩) L.length L.length] 22) (.cells #[.slice aL L.length cL] 102); have hrow4 : Row (((w3.alloc (.cells ZZ 27)).alloc (.cells #[.slice (some ⟨w3.heap.size, 0, none⟩) L.length L.length] 22)).alloc (.cells #[.slice aL L.length cL] 102)) 27 4 (.slice (some ⟨w3.heap.size, 0, none⟩) L.length L.length) L.length ((blanks L.length).flatMap LT.cells) := HMK.out.turned0 (((Turned.refl (fun _ => False) _).alloc _).alloc _)
  have hsz4 : (((w3.alloc (.cells ZZ 27)).alloc (.cells #[.slice (some ⟨w3.heap.size, 0, none⟩) L.length L.length] 22)).alloc (.cells #[.slice aL L.length cL] 102)).heap.size = w3.heap.size + 3 := by simp
  have hcc : L.length = 0 ∨ (L.length ≤ cL ∧ cL ≤ maxLen) := by
    rcases HR.out.2 with ⟨h, h'⟩ | ⟨g, cap, cur, h, _, h1, h2, _⟩
    · exact .inl h'
    · injection h with _ _ h
      subst h; exact .inr ⟨h1, h2⟩
  have hcc2 : L.length ≤ cL ∧ cL ≤ maxLen := by
    rcases HR.out.2 with ⟨h, h'⟩ | ⟨g, cap, cur, h, _, h1, h2, _⟩
    · injection h with _ h1 h2
      subst h2; exact ⟨by omega, by unfold maxLen; omega⟩
    · injection h with _ _ h
      subst h; exact ⟨h1, h2⟩
  have hws : w.heap.size + 2 ≤ w3.heap.size := by
    have h1 := H2.out.2.1; have := (Array.getElem?_eq_some_iff.1 HB1.out).1; omega
  clear hcc; revert hT4 h3 hrow4 hsz4; generalize (((w3.alloc (.cells ZZ 27)).alloc (.cells #[.slice (some ⟨w3.heap.size, 0, none⟩) L.length L.length] 22)).alloc (.cells #[.slice aL L.length cL] 102)) = w4; intro hT4 h3 hrow4 hsz4
  have hlt : ∀ k, (Value.slice aL L.length cL).ownBlock = some k → k < w3.heap.size + 3 ∧ k ≠ w3.heap.size := fun k hk => by have := HR.out.lt k hk; omega
  have hBn : w4.cell? ⟨w3.heap.size + 1 + 1, 0, none⟩ = some (.slice aL L.length cL) := cell_of_row w4 (w3.heap.size + 1 + 1) 0 _ 102 (0, 0) h3.2.2.2
  refine wpIn_rangeFunc_ownH rfl (by omega) (gf := 169) (lb := #[.pointer (some ⟨w3.heap.size + 1 + 1, 0, none⟩)]) rfl trivial (enters_of Try.func169 (by kernel_rfl) rfl)
    (back_stops169 Fence.wide (3 - 1) trivial rfl (by omega) (w3.heap.size + 1 + 1) (w3.heap.size + 3) w3.heap.size w4 (by omega) ⟨by omega, by omega⟩ hBn (HR.out.turned0 (HT3.out.trans hT4)) hlt hcc2.1 hcc2.2) kpB_t (kpB_b (by omega)) (Below.refl _ _) (fun _ => rfl)
    (BackI w w3.heap.size w.heap.size (w3.heap.size + 1) #[.int .i64 (t.args.length : Int), .int .i64 (t.vars.length : Int), .int .i64 (L.length : Int), .slice aL L.length cL] L) (fun _ _ _ => False) (backI_own (by omega)) (fun _ _ _ _ _ hs _ _ => hs) ?start
    (BackA w t w3.heap.size (w3.heap.size + 1) (w3.heap.size + 1 + 1) aL cL L) (fun q a' => backA_own q a') ?assign ?body ?done ?stop
  case start =>
    exact ⟨blanks L.length, blanks_V L.length, hrow4, fun x hx => blanks_leaf L.length x hx _ _, (hT4.block _ (Array.getElem?_eq_some_iff.1 HB0.out).1 (fun f => f)).trans HB0.out, (hT4.block _ (Array.getElem?_eq_some_iff.1 HB1.out).1 (fun f => f)).trans HB1.out, h3.2.2.1, HT3.out.trans hT4⟩
  case assign =>
    intro lp pre q W K hI hK; have HK := hid hK; have HI := hid hI; clear hK hI; unfold stW; gi_wp2; have TA := (Turned.refl (fun _ => False) W).alloc (.cells #[.string (L.getD (idx L.length q) noS).op, .int .i64 (L.getD (idx L.length q) noS).a, .int .i64 (L.getD (idx L.length q) noS).b, .int .i64 (L.getD (idx L.length q) noS).c, .int .i64 (L.getD (idx L.length q) noS).n, .string (L.getD (idx L.length q) noS).name] 139); obtain ⟨rs, i1, i2, i3, i4, i5, i6, i7⟩ := HI.out; refine HK.out _ _ (keepsFrom_turned0 TA) (kpB_of0 TA) ⟨rs, i1, i2.turned0 TA, fun x hx => (i3 x hx).turned0 TA, (TA.block _ (Array.getElem?_eq_some_iff.1 i4).1 (fun f => f)).trans i4, (TA.block _ (Array.getElem?_eq_some_iff.1 i5).1 (fun f => f)).trans i5, (TA.block _ (Array.getElem?_eq_some_iff.1 i6).1 (fun f => f)).trans i6, i7.trans TA⟩ ⟨W.heap.size, idx L.length q, L.getD (idx L.length q) noS, rfl, rfl, rfl, heap_alloc_new W _⟩
  case body =>
    rintro lp pre q a' W hlp - ⟨rs, i1, i2, i3, i4, i5, i6, i7⟩ ⟨g, i, s, hi, hs, rfl, hgc⟩ hplen
    have hil : i < L.length := by rw [hi]; exact idx_lt (by omega)
    have hLi : L[i]? = some s := by rw [hs, List.getD_eq_getElem?_getD, List.getElem?_eq_getElem hil]; rfl
    obtain ⟨x, hx, hsx⟩ := steps_at (t := t) (i := i) (s := s) (by rw [← HN.out, ← HL.out]; exact hLi); have hxf := LT.In.flat t HIN.out x (by rw [Tm.flat_eq]; exact List.mem_cons_of_mem _ (Tm.regs_flats x (List.mem_of_getElem? hx)))
    have hgg : W.heap[w3.heap.size]? ≠ some (.cells #[.string s.op, .int .i64 s.a, .int .i64 s.b, .int .i64 s.c, .int .i64 s.n, .string s.name] 139 (0, 0)) := by
      rcases i2.2 with ⟨h, _⟩ | ⟨g', cap, cur, h, h', _⟩
      · cases h
      · injection h with h
        injection h with h
        injection h with h
        rw [h, h']; intro c
        injection c with c
        injection c with _ c
        cases c
    have hg3 : g ≠ w3.heap.size := fun e => hgg (e ▸ hgc)
    obtain ⟨n0, n1, n2, n3, n4, n5⟩ := cells6 hgc; have c6 := cell_of_row W (w3.heap.size + 1) 0 _ 22 (0, 0) i6; simp only [List.getElem?_toArray, List.getElem?_cons_zero] at c6
    have hnext := fun (W1 W2 : World) (u : LT) (T1 : Turned (fun _ => False) W W1) (hu : u.In (fun k => k ≠ w3.heap.size ∧ k ≠ w.heap.size + 1) W1) (hb : u.bare = Tm.madeS s (foldR L (List.replicate L.length (Tm.V 0)) pre)) T2 => BackI.next (B0 := w.heap.size) (B6 := w3.heap.size + 1) (W2 := W2) (by omega) (by omega) (by omega) (by omega) (by omega) hi hil hs i1 i2 i3 i4 i5 i6 i7 T1 hu hb T2
    have HNX := hid hnext; have HI2 := hid i2; have HI1 := hid i1; have HI3 := hid i3; have HC6 := hid (fun W' (T : Turned (fun _ => False) W W') => (T.cell0 c6)); have HNC := hid (fun W' (T : Turned (fun _ => False) W W') => cells6 ((T.block _ (Array.getElem?_eq_some_iff.1 hgc).1 (fun f => f)).trans hgc)); have HXF := hid hxf; have HX := hid hx
    obtain ⟨cur, hcur⟩ : ∃ cur, W.heap[w3.heap.size]? = some (.cells cur 27 (0, 0)) := by
      rcases i2.2 with ⟨h, _⟩ | ⟨g', cap, cur, h, h', _⟩
      · cases h
      · injection h with h
        injection h with h
        injection h with h
        exact ⟨cur, by rw [h]; exact h'⟩
    have HCUR := hid hcur; clear hnext i1 i2 i3 i4 i5 i6 i7 hgg hxf hi hs hgc hcur hLi; unfold stW
    by_cases h0 : x.kind = 0
    · have hse : ∃ op, (op = Tm.sVar ∨ op = Tm.sVal) ∧ s = ⟨op, (i : Int), (Tm.posOf t.vars x.n : Int), 0, 0, ByteArray.empty⟩ := by
        rw [hsx]; unfold Tm.stepX; rw [if_pos h0]; refine ⟨_, ?_, rfl⟩
        split <;> simp
      obtain ⟨op, hop, hse⟩ := hse; clear hsx hx
      have HB0 : Hid (∀ (u : LT), u = leaf 0 (Tm.posOf t.vars x.n : Int) ByteArray.empty → u.bare = Tm.madeS s (foldR L (List.replicate L.length (Tm.V 0)) pre)) := fun u hu => by
        rw [hu, hse]; unfold Tm.madeS; rw [if_pos (by simpa using hop)]; rfl
      have hpos : Tm.posOf t.vars x.n ≤ 5000 := by
        have h1 : Tm.posOf t.vars x.n ≤ t.vars.length := List.idxOf_le_length; have h2 := vars_le t; have h := hg; unfold goodB at h; simp only [Bool.and_eq_true, decide_eq_true_eq] at h; omega
      subst hse; simp only [] at n0 n1 n2 n3 n4 n5
      rcases hop with rfl | rfl
      · have o0 := op_Var_Var
        have o1 := op_Var_Val; gi_wp2; refine wpIn_region_k [42, 43, 44, 45, 46, 47] [6] [] (fun dd vv => (match dd with | 42 => vv = .slice (some ⟨w3.heap.size, 0, none⟩) L.length L.length | 43 => vv = .int .i64 (i : Int) | 44 => vv = .pointer (some ⟨g, 2, none⟩) | 45 => vv = .int .i64 (Tm.posOf t.vars x.n : Int) | 46 => vv = .agg #[.int .i64 0, .int .i64 (Tm.posOf t.vars x.n : Int), .string ByteArray.empty, .slice none 0 0] | 47 => vv = .pointer (some ⟨w3.heap.size, i * 4, none⟩) | _ => True : Prop)) (StoreR w3.heap.size i (.int .i64 0) (.int .i64 (Tm.posOf t.vars x.n : Int)) (.string ByteArray.empty) (.slice none 0 0) W) (by kernel_rfl) rfl (by kernel_rfl) (by kernel_rfl) (fun W' T => T) (fun hs w w' h T => StoreR.turned0 hs w w' h T) ?hs ?hQ (by kernel_rfl)
        case hs =>
          refine ⟨?s0, ?s1, ?s2, ?s3, ?s4, ?s5, ?s6, trivial⟩
          case s0 =>
            refine fun hs hl => stepG_free [] [6] (by kernel_rfl) rfl ?_
            intro ac W8 hT hI hO; have h6 : ac.tmps.getD 6 undef = .pointer (some ⟨w3.heap.size + 1, 0, none⟩) := hO 6 (by simp); have hE := (hT.early (fun v => hl 6 8 v (by kernel_rfl))).2; have c6 := HC6.out W8 hE; show Brings Try.prog (fun vv w' => Turned (fun _ => False) W8 w' ∧ vv = .slice (some ⟨w3.heap.size, 0, none⟩) L.length L.length) _; simp only [execOp, Act.eval, h6]; go_simp
            try exact tq
          case s1 =>
            refine fun hs hl => stepG_free [] [7] (by kernel_rfl) rfl ?_
            intro ac W8 hT hI hO; have h7 : ac.tmps.getD 7 undef = .int .i64 (i : Int) := hO 7 (by simp); show Brings Try.prog (fun vv w' => Turned (fun _ => False) W8 w' ∧ vv = .int .i64 (i : Int)) _; simp only [execOp, Act.eval, h7]; go_simp
            try exact tq
          case s2 =>
            refine fun hs hl => stepG_free [] [8] (by kernel_rfl) rfl ?_
            intro ac W8 hT hI hO; have h8 : ac.tmps.getD 8 undef = .pointer (some ⟨g, 0, none⟩) := hO 8 (by simp); show Brings Try.prog (fun vv w' => Turned (fun _ => False) W8 w' ∧ vv = .pointer (some ⟨g, 2, none⟩)) _; simp only [execOp, Act.eval, h8]; go_simp
            try exact tq
          case s3 =>
            refine fun hs hl => stepG_free [44] [] (by kernel_rfl) rfl ?_
            intro ac W8 hT hI hO; have h44 : ac.tmps.getD 44 undef = _ := hI 44 (by simp); have hE := (hT.early (fun v => hl 6 8 v (by kernel_rfl))).2; obtain ⟨n0, n1, n2, n3, n4, n5⟩ := HNC.out W8 hE; show Brings Try.prog (fun vv w' => Turned (fun _ => False) W8 w' ∧ vv = .int .i64 (Tm.posOf t.vars x.n : Int)) _; simp only [execOp, Act.eval, h44]; go_simp
            try exact tq
          case s4 =>
            refine fun hs hl => stepG_free [45] [] (by kernel_rfl) rfl ?_
            intro ac W8 hT hI hO; have h45 : ac.tmps.getD 45 undef = _ := hI 45 (by simp); show Brings Try.prog (fun vv w' => Turned (fun _ => False) W8 w' ∧ vv = .agg #[.int .i64 0, .int .i64 (Tm.posOf t.vars x.n : Int), .string ByteArray.empty, .slice none 0 0]) _; simp only [execOp, Act.eval, h45]; go_simp; show Calls Try.prog 62 _ W8 _
            (with_reducible refine (varV62b (Tm.posOf t.vars x.n : Int) (by unfold I64; omega) W8).mono ?_)
            rintro e w' ⟨rfl, T'⟩
            exact ⟨_, rfl, T', rfl⟩
          case s5 =>
            refine fun hs hl => stepG_free [42, 43] [] (by kernel_rfl) rfl ?_
            intro ac W8 hT hI hO; have h42 : ac.tmps.getD 42 undef = _ := hI 42 (by simp); have h43 : ac.tmps.getD 43 undef = _ := hI 43 (by simp); have hii : i < L.length := hil; show Brings Try.prog (fun vv w' => Turned (fun _ => False) W8 w' ∧ vv = .pointer (some ⟨w3.heap.size, i * 4, none⟩)) _; simp only [execOp, Act.eval, h42, h43]; go_simp
            try exact tq
          case s6 =>
            refine fun hs hno hl => stepG_free [47, 46] [] (by kernel_rfl) rfl ?_
            intro ac W8 hT hI hO; have h47 : ac.tmps.getD 47 undef = _ := hI 47 (by simp); have h46 : ac.tmps.getD 46 undef = _ := hI 46 (by simp); have hE := (hT.early hno); obtain ⟨rfl, hE⟩ := hE; have hcw := (hE.block _ (Array.getElem?_eq_some_iff.1 HCUR.out).1 (fun f => f)).trans HCUR.out; obtain ⟨y0, c0⟩ := row_some (HI2.out.turned0 hE) (i * 4) (by omega); obtain ⟨y1, c1⟩ := row_some (HI2.out.turned0 hE) (i * 4 + 1) (by omega); obtain ⟨y2, c2⟩ := row_some (HI2.out.turned0 hE) (i * 4 + 2) (by omega); obtain ⟨y3, c3⟩ := row_some (HI2.out.turned0 hE) (i * 4 + 3) (by omega); have f0 := (HI2.out.turned0 hE).free rfl (i * 4); have f1 := (HI2.out.turned0 hE).free rfl (i * 4 + 1); have f2 := (HI2.out.turned0 hE).free rfl (i * 4 + 2); have f3 := (HI2.out.turned0 hE).free rfl (i * 4 + 3); show Brings Try.prog (fun vv w' => StoreR w3.heap.size i (.int .i64 0) (.int .i64 (Tm.posOf t.vars x.n : Int)) (.string ByteArray.empty) (.slice none 0 0) W [(6, vv)] w') _; simp only [execOp, Act.eval, h47, h46]; go_simp; exact ⟨W8, hE, Turned.refl _ _⟩
        case hQ =>
          intro hs vs W9 hall huniq hR hV; obtain ⟨v6, h6⟩ := hall 6 (by simp); obtain ⟨W1, T1, T2⟩ := hR.done h6; simp only [List.foldl_cons, List.foldl_nil, List.setIfInBounds_toArray, List.set_cons_zero, List.set_cons_succ]; obtain ⟨TW, hnx⟩ := HNX.out W1 W9 (leaf 0 (Tm.posOf t.vars x.n : Int) ByteArray.empty : LT) T1 (var_in (by unfold I64; omega)) (HB0.out _ rfl) T2; clear hall huniq hR hV h6; gi_wp2; exact ⟨keepsFrom_turned TW HCUR.out, kpB_of TW, hnx⟩
      · have o0 := op_Val_Var
        have o1 := op_Val_Val; gi_wp2; refine wpIn_region_k [42, 43, 44, 45, 46, 47] [6] [] (fun dd vv => (match dd with | 42 => vv = .slice (some ⟨w3.heap.size, 0, none⟩) L.length L.length | 43 => vv = .int .i64 (i : Int) | 44 => vv = .pointer (some ⟨g, 2, none⟩) | 45 => vv = .int .i64 (Tm.posOf t.vars x.n : Int) | 46 => vv = .agg #[.int .i64 0, .int .i64 (Tm.posOf t.vars x.n : Int), .string ByteArray.empty, .slice none 0 0] | 47 => vv = .pointer (some ⟨w3.heap.size, i * 4, none⟩) | _ => True : Prop)) (StoreR w3.heap.size i (.int .i64 0) (.int .i64 (Tm.posOf t.vars x.n : Int)) (.string ByteArray.empty) (.slice none 0 0) W) (by kernel_rfl) rfl (by kernel_rfl) (by kernel_rfl) (fun W' T => T) (fun hs w w' h T => StoreR.turned0 hs w w' h T) ?hs ?hQ (by kernel_rfl)
        case hs =>
          refine ⟨?s0, ?s1, ?s2, ?s3, ?s4, ?s5, ?s6, trivial⟩
          case s0 =>
            refine fun hs hl => stepG_free [] [6] (by kernel_rfl) rfl ?_
            intro ac W8 hT hI hO; have h6 : ac.tmps.getD 6 undef = .pointer (some ⟨w3.heap.size + 1, 0, none⟩) := hO 6 (by simp); have hE := (hT.early (fun v => hl 6 8 v (by kernel_rfl))).2; have c6 := HC6.out W8 hE; show Brings Try.prog (fun vv w' => Turned (fun _ => False) W8 w' ∧ vv = .slice (some ⟨w3.heap.size, 0, none⟩) L.length L.length) _; simp only [execOp, Act.eval, h6]; go_simp
            try exact tq
          case s1 =>
            refine fun hs hl => stepG_free [] [7] (by kernel_rfl) rfl ?_
            intro ac W8 hT hI hO; have h7 : ac.tmps.getD 7 undef = .int .i64 (i : Int) := hO 7 (by simp); show Brings Try.prog (fun vv w' => Turned (fun _ => False) W8 w' ∧ vv = .int .i64 (i : Int)) _; simp only [execOp, Act.eval, h7]; go_simp
            try exact tq
          case s2 =>
            refine fun hs hl => stepG_free [] [8] (by kernel_rfl) rfl ?_
            intro ac W8 hT hI hO; have h8 : ac.tmps.getD 8 undef = .pointer (some ⟨g, 0, none⟩) := hO 8 (by simp); show Brings Try.prog (fun vv w' => Turned (fun _ => False) W8 w' ∧ vv = .pointer (some ⟨g, 2, none⟩)) _; simp only [execOp, Act.eval, h8]; go_simp
            try exact tq
          case s3 =>
            refine fun hs hl => stepG_free [44] [] (by kernel_rfl) rfl ?_
            intro ac W8 hT hI hO; have h44 : ac.tmps.getD 44 undef = _ := hI 44 (by simp); have hE := (hT.early (fun v => hl 6 8 v (by kernel_rfl))).2; obtain ⟨n0, n1, n2, n3, n4, n5⟩ := HNC.out W8 hE; show Brings Try.prog (fun vv w' => Turned (fun _ => False) W8 w' ∧ vv = .int .i64 (Tm.posOf t.vars x.n : Int)) _; simp only [execOp, Act.eval, h44]; go_simp
            try exact tq
          case s4 =>
            refine fun hs hl => stepG_free [45] [] (by kernel_rfl) rfl ?_
            intro ac W8 hT hI hO; have h45 : ac.tmps.getD 45 undef = _ := hI 45 (by simp); show Brings Try.prog (fun vv w' => Turned (fun _ => False) W8 w' ∧ vv = .agg #[.int .i64 0, .int .i64 (Tm.posOf t.vars x.n : Int), .string ByteArray.empty, .slice none 0 0]) _; simp only [execOp, Act.eval, h45]; go_simp; show Calls Try.prog 62 _ W8 _
            (with_reducible refine (varV62b (Tm.posOf t.vars x.n : Int) (by unfold I64; omega) W8).mono ?_)
            rintro e w' ⟨rfl, T'⟩
            exact ⟨_, rfl, T', rfl⟩
          case s5 =>
            refine fun hs hl => stepG_free [42, 43] [] (by kernel_rfl) rfl ?_
            intro ac W8 hT hI hO; have h42 : ac.tmps.getD 42 undef = _ := hI 42 (by simp); have h43 : ac.tmps.getD 43 undef = _ := hI 43 (by simp); have hii : i < L.length := hil; show Brings Try.prog (fun vv w' => Turned (fun _ => False) W8 w' ∧ vv = .pointer (some ⟨w3.heap.size, i * 4, none⟩)) _; simp only [execOp, Act.eval, h42, h43]; go_simp
            try exact tq
          case s6 =>
            refine fun hs hno hl => stepG_free [47, 46] [] (by kernel_rfl) rfl ?_
            intro ac W8 hT hI hO; have h47 : ac.tmps.getD 47 undef = _ := hI 47 (by simp); have h46 : ac.tmps.getD 46 undef = _ := hI 46 (by simp); have hE := (hT.early hno); obtain ⟨rfl, hE⟩ := hE; have hcw := (hE.block _ (Array.getElem?_eq_some_iff.1 HCUR.out).1 (fun f => f)).trans HCUR.out; obtain ⟨y0, c0⟩ := row_some (HI2.out.turned0 hE) (i * 4) (by omega); obtain ⟨y1, c1⟩ := row_some (HI2.out.turned0 hE) (i * 4 + 1) (by omega); obtain ⟨y2, c2⟩ := row_some (HI2.out.turned0 hE) (i * 4 + 2) (by omega); obtain ⟨y3, c3⟩ := row_some (HI2.out.turned0 hE) (i * 4 + 3) (by omega); have f0 := (HI2.out.turned0 hE).free rfl (i * 4); have f1 := (HI2.out.turned0 hE).free rfl (i * 4 + 1); have f2 := (HI2.out.turned0 hE).free rfl (i * 4 + 2); have f3 := (HI2.out.turned0 hE).free rfl (i * 4 + 3); show Brings Try.prog (fun vv w' => StoreR w3.heap.size i (.int .i64 0) (.int .i64 (Tm.posOf t.vars x.n : Int)) (.string ByteArray.empty) (.slice none 0 0) W [(6, vv)] w') _; simp only [execOp, Act.eval, h47, h46]; go_simp; exact ⟨W8, hE, Turned.refl _ _⟩
        case hQ =>
          intro hs vs W9 hall huniq hR hV; obtain ⟨v6, h6⟩ := hall 6 (by simp); obtain ⟨W1, T1, T2⟩ := hR.done h6; simp only [List.foldl_cons, List.foldl_nil, List.setIfInBounds_toArray, List.set_cons_zero, List.set_cons_succ]; obtain ⟨TW, hnx⟩ := HNX.out W1 W9 (leaf 0 (Tm.posOf t.vars x.n : Int) ByteArray.empty : LT) T1 (var_in (by unfold I64; omega)) (HB0.out _ rfl) T2; clear hall huniq hR hV h6; gi_wp2; exact ⟨keepsFrom_turned TW HCUR.out, kpB_of TW, hnx⟩
    by_cases h1 : x.kind = 1
    · have hse : s = ⟨Tm.sInt, (i : Int), 0, 0, x.n, ByteArray.empty⟩ := by
        rw [hsx]; unfold Tm.stepX; rw [if_neg h0, if_pos h1]
      clear hsx hx
      have HB0 : Hid (∀ (u : LT), u = leaf 1 x.n ByteArray.empty → u.bare = Tm.madeS s (foldR L (List.replicate L.length (Tm.V 0)) pre)) := fun u hu => by
        obtain ⟨e1, e2, e3, e4, e5, e6, e7, e8, e9, e10⟩ := Tm.ne_ops; rw [hu, hse]; unfold Tm.madeS; rw [if_neg (by simp [e2, e3]), if_pos rfl]; rfl
      have h64 := HXF.out.n; subst hse; simp only [] at n0 n1 n2 n3 n4 n5; have o0 := op_Int_Var; have o1 := op_Int_Val; have o2 := op_Int_Int; have HX64 := hid h64; clear h0 h1 h64; gi_wp2; refine wpIn_region_k [50, 51, 52, 53, 54, 55] [6] [] (fun dd vv => (match dd with | 50 => vv = .slice (some ⟨w3.heap.size, 0, none⟩) L.length L.length | 51 => vv = .int .i64 (i : Int) | 52 => vv = .pointer (some ⟨g, 4, none⟩) | 53 => vv = .int .i64 x.n | 54 => vv = .agg #[.int .i64 1, .int .i64 x.n, .string ByteArray.empty, .slice none 0 0] | 55 => vv = .pointer (some ⟨w3.heap.size, i * 4, none⟩) | _ => True : Prop)) (StoreR w3.heap.size i (.int .i64 1) (.int .i64 x.n) (.string ByteArray.empty) (.slice none 0 0) W) (by kernel_rfl) rfl (by kernel_rfl) (by kernel_rfl) (fun W' T => T) (fun hs w w' h T => StoreR.turned0 hs w w' h T) ?hs ?hQ (by kernel_rfl)
      case hs =>
        refine ⟨?s0, ?s1, ?s2, ?s3, ?s4, ?s5, ?s6, trivial⟩
        case s0 =>
          refine fun hs hl => stepG_free [] [6] (by kernel_rfl) rfl ?_
          intro ac W8 hT hI hO; have h6 : ac.tmps.getD 6 undef = .pointer (some ⟨w3.heap.size + 1, 0, none⟩) := hO 6 (by simp); have hE := (hT.early (fun v => hl 6 8 v (by kernel_rfl))).2; have c6 := HC6.out W8 hE; show Brings Try.prog (fun vv w' => Turned (fun _ => False) W8 w' ∧ vv = .slice (some ⟨w3.heap.size, 0, none⟩) L.length L.length) _; simp only [execOp, Act.eval, h6]; go_simp
          try exact tq
        case s1 =>
          refine fun hs hl => stepG_free [] [7] (by kernel_rfl) rfl ?_
          intro ac W8 hT hI hO; have h7 : ac.tmps.getD 7 undef = .int .i64 (i : Int) := hO 7 (by simp); show Brings Try.prog (fun vv w' => Turned (fun _ => False) W8 w' ∧ vv = .int .i64 (i : Int)) _; simp only [execOp, Act.eval, h7]; go_simp
          try exact tq
        case s2 =>
          refine fun hs hl => stepG_free [] [8] (by kernel_rfl) rfl ?_
          intro ac W8 hT hI hO; have h8 : ac.tmps.getD 8 undef = .pointer (some ⟨g, 0, none⟩) := hO 8 (by simp); show Brings Try.prog (fun vv w' => Turned (fun _ => False) W8 w' ∧ vv = .pointer (some ⟨g, 4, none⟩)) _; simp only [execOp, Act.eval, h8]; go_simp
          try exact tq
        case s3 =>
          refine fun hs hl => stepG_free [52] [] (by kernel_rfl) rfl ?_
          intro ac W8 hT hI hO; have h52 : ac.tmps.getD 52 undef = _ := hI 52 (by simp); have hE := (hT.early (fun v => hl 6 8 v (by kernel_rfl))).2; obtain ⟨n0, n1, n2, n3, n4, n5⟩ := HNC.out W8 hE; show Brings Try.prog (fun vv w' => Turned (fun _ => False) W8 w' ∧ vv = .int .i64 x.n) _; simp only [execOp, Act.eval, h52]; go_simp
          try exact tq
        case s4 =>
          refine fun hs hl => stepG_free [53] [] (by kernel_rfl) rfl ?_
          intro ac W8 hT hI hO; have h53 : ac.tmps.getD 53 undef = _ := hI 53 (by simp); show Brings Try.prog (fun vv w' => Turned (fun _ => False) W8 w' ∧ vv = .agg #[.int .i64 1, .int .i64 x.n, .string ByteArray.empty, .slice none 0 0]) _; simp only [execOp, Act.eval, h53]; go_simp; show Calls Try.prog 61 _ W8 _
          (with_reducible refine (intV61 x.n HX64.out W8).mono ?_)
          rintro e w' ⟨rfl, T'⟩
          exact ⟨_, rfl, T', rfl⟩
        case s5 =>
          refine fun hs hl => stepG_free [50, 51] [] (by kernel_rfl) rfl ?_
          intro ac W8 hT hI hO; have h50 : ac.tmps.getD 50 undef = _ := hI 50 (by simp); have h51 : ac.tmps.getD 51 undef = _ := hI 51 (by simp); have hii : i < L.length := hil; show Brings Try.prog (fun vv w' => Turned (fun _ => False) W8 w' ∧ vv = .pointer (some ⟨w3.heap.size, i * 4, none⟩)) _; simp only [execOp, Act.eval, h50, h51]; go_simp
          try exact tq
        case s6 =>
          refine fun hs hno hl => stepG_free [55, 54] [] (by kernel_rfl) rfl ?_
          intro ac W8 hT hI hO; have h55 : ac.tmps.getD 55 undef = _ := hI 55 (by simp); have h54 : ac.tmps.getD 54 undef = _ := hI 54 (by simp); have hE := (hT.early hno); obtain ⟨rfl, hE⟩ := hE; have hcw := (hE.block _ (Array.getElem?_eq_some_iff.1 HCUR.out).1 (fun f => f)).trans HCUR.out; obtain ⟨y0, c0⟩ := row_some (HI2.out.turned0 hE) (i * 4) (by omega); obtain ⟨y1, c1⟩ := row_some (HI2.out.turned0 hE) (i * 4 + 1) (by omega); obtain ⟨y2, c2⟩ := row_some (HI2.out.turned0 hE) (i * 4 + 2) (by omega); obtain ⟨y3, c3⟩ := row_some (HI2.out.turned0 hE) (i * 4 + 3) (by omega); have f0 := (HI2.out.turned0 hE).free rfl (i * 4); have f1 := (HI2.out.turned0 hE).free rfl (i * 4 + 1); have f2 := (HI2.out.turned0 hE).free rfl (i * 4 + 2); have f3 := (HI2.out.turned0 hE).free rfl (i * 4 + 3); show Brings Try.prog (fun vv w' => StoreR w3.heap.size i (.int .i64 1) (.int .i64 x.n) (.string ByteArray.empty) (.slice none 0 0) W [(6, vv)] w') _; simp only [execOp, Act.eval, h55, h54]; go_simp; exact ⟨W8, hE, Turned.refl _ _⟩
      case hQ =>
        intro hs vs W9 hall huniq hR hV; obtain ⟨v6, h6⟩ := hall 6 (by simp); obtain ⟨W1, T1, T2⟩ := hR.done h6; simp only [List.foldl_cons, List.foldl_nil, List.setIfInBounds_toArray, List.set_cons_zero, List.set_cons_succ]; obtain ⟨TW, hnx⟩ := HNX.out W1 W9 (leaf 1 x.n ByteArray.empty : LT) T1 (leafIn' (i64_lit 1 (by omega)) HX64.out (by unfold maxLen; decide)) (HB0.out _ rfl) T2; clear hall huniq hR hV h6; gi_wp2; exact ⟨keepsFrom_turned TW HCUR.out, kpB_of TW, hnx⟩
    by_cases ha : x.args.length = 0
    · have hse : s = ⟨Tm.sAtom, (i : Int), 0, 0, 0, x.name⟩ := by
        rw [hsx]; unfold Tm.stepX; rw [if_neg h0, if_neg h1, if_pos ha]
      clear hsx hx
      have HB0 : Hid (∀ (u : LT), u = leaf 2 0 x.name → u.bare = Tm.madeS s (foldR L (List.replicate L.length (Tm.V 0)) pre)) := fun u hu => by
        obtain ⟨e1, e2, e3, e4, e5, e6, e7, e8, e9, e10⟩ := Tm.ne_ops; rw [hu, hse]; unfold Tm.madeS; rw [if_neg (by simp [e4, e5]), if_neg e6, if_pos rfl]; rfl
      have hnm := HXF.out.name; subst hse; simp only [] at n0 n1 n2 n3 n4 n5; have o0 := op_Atom_Var; have o1 := op_Atom_Val; have o2 := op_Atom_Int; have o3 := op_Atom_Atom; have HNM := hid hnm; clear h0 h1 ha hnm; gi_wp2; refine wpIn_region_k [58, 59, 60, 61, 62, 63] [6] [] (fun dd vv => (match dd with | 58 => vv = .slice (some ⟨w3.heap.size, 0, none⟩) L.length L.length | 59 => vv = .int .i64 (i : Int) | 60 => vv = .pointer (some ⟨g, 5, none⟩) | 61 => vv = .string x.name | 62 => vv = .agg #[.int .i64 2, .int .i64 0, .string x.name, .slice none 0 0] | 63 => vv = .pointer (some ⟨w3.heap.size, i * 4, none⟩) | _ => True : Prop)) (StoreR w3.heap.size i (.int .i64 2) (.int .i64 0) (.string x.name) (.slice none 0 0) W) (by kernel_rfl) rfl (by kernel_rfl) (by kernel_rfl) (fun W' T => T) (fun hs w w' h T => StoreR.turned0 hs w w' h T) ?hs ?hQ (by kernel_rfl)
      case hs =>
        refine ⟨?s0, ?s1, ?s2, ?s3, ?s4, ?s5, ?s6, trivial⟩
        case s0 =>
          refine fun hs hl => stepG_free [] [6] (by kernel_rfl) rfl ?_
          intro ac W8 hT hI hO; have h6 : ac.tmps.getD 6 undef = .pointer (some ⟨w3.heap.size + 1, 0, none⟩) := hO 6 (by simp); have hE := (hT.early (fun v => hl 6 8 v (by kernel_rfl))).2; have c6 := HC6.out W8 hE; show Brings Try.prog (fun vv w' => Turned (fun _ => False) W8 w' ∧ vv = .slice (some ⟨w3.heap.size, 0, none⟩) L.length L.length) _; simp only [execOp, Act.eval, h6]; go_simp
          try exact tq
        case s1 =>
          refine fun hs hl => stepG_free [] [7] (by kernel_rfl) rfl ?_
          intro ac W8 hT hI hO; have h7 : ac.tmps.getD 7 undef = .int .i64 (i : Int) := hO 7 (by simp); show Brings Try.prog (fun vv w' => Turned (fun _ => False) W8 w' ∧ vv = .int .i64 (i : Int)) _; simp only [execOp, Act.eval, h7]; go_simp
          try exact tq
        case s2 =>
          refine fun hs hl => stepG_free [] [8] (by kernel_rfl) rfl ?_
          intro ac W8 hT hI hO; have h8 : ac.tmps.getD 8 undef = .pointer (some ⟨g, 0, none⟩) := hO 8 (by simp); show Brings Try.prog (fun vv w' => Turned (fun _ => False) W8 w' ∧ vv = .pointer (some ⟨g, 5, none⟩)) _; simp only [execOp, Act.eval, h8]; go_simp
          try exact tq
        case s3 =>
          refine fun hs hl => stepG_free [60] [] (by kernel_rfl) rfl ?_
          intro ac W8 hT hI hO; have h60 : ac.tmps.getD 60 undef = _ := hI 60 (by simp); have hE := (hT.early (fun v => hl 6 8 v (by kernel_rfl))).2; obtain ⟨n0, n1, n2, n3, n4, n5⟩ := HNC.out W8 hE; show Brings Try.prog (fun vv w' => Turned (fun _ => False) W8 w' ∧ vv = .string x.name) _; simp only [execOp, Act.eval, h60]; go_simp
          try exact tq
        case s4 =>
          refine fun hs hl => stepG_free [61] [] (by kernel_rfl) rfl ?_
          intro ac W8 hT hI hO; have h61 : ac.tmps.getD 61 undef = _ := hI 61 (by simp); show Brings Try.prog (fun vv w' => Turned (fun _ => False) W8 w' ∧ vv = .agg #[.int .i64 2, .int .i64 0, .string x.name, .slice none 0 0]) _; simp only [execOp, Act.eval, h61]; go_simp; show Calls Try.prog 63 _ W8 _
          (with_reducible refine (atomV63b x.name HNM.out W8).mono ?_)
          rintro e w' ⟨rfl, T'⟩
          exact ⟨_, rfl, T', rfl⟩
        case s5 =>
          refine fun hs hl => stepG_free [58, 59] [] (by kernel_rfl) rfl ?_
          intro ac W8 hT hI hO; have h58 : ac.tmps.getD 58 undef = _ := hI 58 (by simp); have h59 : ac.tmps.getD 59 undef = _ := hI 59 (by simp); have hii : i < L.length := hil; show Brings Try.prog (fun vv w' => Turned (fun _ => False) W8 w' ∧ vv = .pointer (some ⟨w3.heap.size, i * 4, none⟩)) _; simp only [execOp, Act.eval, h58, h59]; go_simp
          try exact tq
        case s6 =>
          refine fun hs hno hl => stepG_free [63, 62] [] (by kernel_rfl) rfl ?_
          intro ac W8 hT hI hO; have h63 : ac.tmps.getD 63 undef = _ := hI 63 (by simp); have h62 : ac.tmps.getD 62 undef = _ := hI 62 (by simp); have hE := (hT.early hno); obtain ⟨rfl, hE⟩ := hE; have hcw := (hE.block _ (Array.getElem?_eq_some_iff.1 HCUR.out).1 (fun f => f)).trans HCUR.out; obtain ⟨y0, c0⟩ := row_some (HI2.out.turned0 hE) (i * 4) (by omega); obtain ⟨y1, c1⟩ := row_some (HI2.out.turned0 hE) (i * 4 + 1) (by omega); obtain ⟨y2, c2⟩ := row_some (HI2.out.turned0 hE) (i * 4 + 2) (by omega); obtain ⟨y3, c3⟩ := row_some (HI2.out.turned0 hE) (i * 4 + 3) (by omega); have f0 := (HI2.out.turned0 hE).free rfl (i * 4); have f1 := (HI2.out.turned0 hE).free rfl (i * 4 + 1); have f2 := (HI2.out.turned0 hE).free rfl (i * 4 + 2); have f3 := (HI2.out.turned0 hE).free rfl (i * 4 + 3); show Brings Try.prog (fun vv w' => StoreR w3.heap.size i (.int .i64 2) (.int .i64 0) (.string x.name) (.slice none 0 0) W [(6, vv)] w') _; simp only [execOp, Act.eval, h63, h62]; go_simp; exact ⟨W8, hE, Turned.refl _ _⟩
      case hQ =>
        intro hs vs W9 hall huniq hR hV; obtain ⟨v6, h6⟩ := hall 6 (by simp); obtain ⟨W1, T1, T2⟩ := hR.done h6; simp only [List.foldl_cons, List.foldl_nil, List.setIfInBounds_toArray, List.set_cons_zero, List.set_cons_succ]; obtain ⟨TW, hnx⟩ := HNX.out W1 W9 (leaf 2 0 x.name : LT) T1 (leafIn' (i64_lit 2 (by omega)) (i64_lit 0 (by omega)) HNM.out) (HB0.out _ rfl) T2; clear hall huniq hR hV h6; gi_wp2; exact ⟨keepsFrom_turned TW HCUR.out, kpB_of TW, hnx⟩
    · have hgo : goodOneB x = true := by
        have h := hg; unfold goodB at h; simp only [Bool.and_eq_true, decide_eq_true_eq, List.all_eq_true] at h; exact h.2.2 x (by rw [Tm.flat_eq]; exact List.mem_cons_of_mem _ (Tm.regs_flats x (List.mem_of_getElem? hx)))
      have hse : s = ⟨Tm.sComp, (i : Int), (x.args.length : Int), (Tm.cb t.args i : Int), 0, x.name⟩ := by
        rw [hsx]; unfold Tm.stepX; rw [if_neg h0, if_neg h1, if_neg ha]
      obtain ⟨_, _, hcb, _⟩ := Tm.cb_next hx; clear hsx hx; obtain ⟨cb, hcbe⟩ : ∃ z, z = Tm.cb t.args i := ⟨_, rfl⟩; obtain ⟨ab, habe⟩ : ∃ z, z = x.args.length := ⟨_, rfl⟩; rw [← hcbe, ← habe] at hse hcb
      have hcb2 : cb + ab ≤ L.length := by have := HN.out; have := HLEN.out; omega
      have HB0 : Hid (∀ (u : LT), u.bare = .mk 2 0 x.name () (((rs.map Tm.bare).drop cb).take ab) → u.bare = Tm.madeS s (foldR L (List.replicate L.length (Tm.V 0)) pre)) := fun u hu => by
        obtain ⟨e1, e2, e3, e4, e5, e6, e7, e8, e9, e10⟩ := Tm.ne_ops; rw [hu, hse, HI1.out]; unfold Tm.madeS; rw [if_neg (by simp [e7, e8]), if_neg e9, if_neg e10]; simp only [Int.toNat_natCast]
      have hnm := HXF.out.name; subst hse; simp only [] at n0 n1 n2 n3 n4 n5; have o0 := op_Comp_Var; have o1 := op_Comp_Val; have o2 := op_Comp_Int; have o3 := op_Comp_Atom; have HNM := hid hnm; have hW6 := (Array.getElem?_eq_some_iff.1 HCUR.out).1; have HCP := hid (fun W' (T : Turned (fun _ => False) W W') => backComp37 (c := cb) (b := ab) (HI2.out.turned0 T) (fun x hx => (HI3.out x hx).turned0 T) x.name HNM.out hcb2 hsz); have HW6 := hid hW6; have HWS := hid hws; obtain ⟨ce, hce⟩ : ∃ z, z = cb + ab := ⟨_, rfl⟩
      have hw : IntKind.i64.wrap ((cb : Int) + (ab : Int)) = (ce : Int) := by rw [wrapI (by omega) (by omega)]; omega
      have HWR := hid hw; have HCB2 : Hid (cb ≤ ce ∧ ce ≤ L.length ∧ cb ≤ L.length ∧ ce - cb = ab ∧ ¬ L.length = cb) := ⟨by omega, by omega, by omega, by omega, by omega⟩; clear h0 h1 ha hnm hcb hcbe habe hW6 hw hgo hce hcb2; gi_wp2; refine wpIn_region_k [24, 25, 26, 27, 28, 29, 30, 31, 32, 33, 34, 35, 36, 37, 38] [13, 15] [(37, 13)] (fun dd vv => (match dd with | 24 => vv = .slice (some ⟨w3.heap.size, 0, none⟩) L.length L.length | 25 => vv = .int .i64 (i : Int) | 26 => vv = .pointer (some ⟨g, 5, none⟩) | 27 => vv = .string x.name | 28 => vv = .slice (some ⟨w3.heap.size, 0, none⟩) L.length L.length | 29 => vv = .pointer (some ⟨g, 3, none⟩) | 30 => vv = .int .i64 (cb : Int) | 31 => vv = .pointer (some ⟨g, 3, none⟩) | 32 => vv = .int .i64 (cb : Int) | 33 => vv = .pointer (some ⟨g, 2, none⟩) | 34 => vv = .int .i64 (ab : Int) | 35 => vv = .int .i64 (ce : Int) | 36 => vv = .slice (some ⟨w3.heap.size, cb * 4, none⟩) ab (L.length - cb) | 38 => vv = .pointer (some ⟨w3.heap.size, i * 4, none⟩) | _ => True : Prop)) (CompR w3.heap.size i (.mk 2 0 x.name () (((rs.map Tm.bare).drop cb).take ab)) (fun k => k ≠ w3.heap.size ∧ k ≠ w.heap.size + 1) W) (by kernel_rfl) rfl (by kernel_rfl) (by kernel_rfl) (fun W' T => T) (fun hs w w' h T => CompR.turned0 hs w w' h T) ?hs ?hQ (by kernel_rfl)
      case hs =>
        refine ⟨?s0, ?s1, ?s2, ?s3, ?s4, ?s5, ?s6, ?s7, ?s8, ?s9, ?s10, ?s11, ?s12, ?s13, ?s14, ?s15, trivial⟩
        case s0 =>
          refine fun hs hl => stepG_free [] [6] (by kernel_rfl) rfl ?_
          intro ac W8 hT hI hO; have h6 : ac.tmps.getD 6 undef = .pointer (some ⟨w3.heap.size + 1, 0, none⟩) := hO 6 (by simp); have hE := hT.early (fun v => hl 15 17 v (by kernel_rfl)); have c6 := HC6.out W8 hE; show Brings Try.prog (fun vv w' => Turned (fun _ => False) W8 w' ∧ vv = .slice (some ⟨w3.heap.size, 0, none⟩) L.length L.length) _; simp only [execOp, Act.eval, h6]; go_simp
          try exact tq
        case s1 =>
          refine fun hs hl => stepG_free [] [7] (by kernel_rfl) rfl ?_
          intro ac W8 hT hI hO; have h7 : ac.tmps.getD 7 undef = .int .i64 (i : Int) := hO 7 (by simp); show Brings Try.prog (fun vv w' => Turned (fun _ => False) W8 w' ∧ vv = .int .i64 (i : Int)) _; simp only [execOp, Act.eval, h7]; go_simp
          try exact tq
        case s2 =>
          refine fun hs hl => stepG_free [] [8] (by kernel_rfl) rfl ?_
          intro ac W8 hT hI hO; have h8 : ac.tmps.getD 8 undef = .pointer (some ⟨g, 0, none⟩) := hO 8 (by simp); show Brings Try.prog (fun vv w' => Turned (fun _ => False) W8 w' ∧ vv = .pointer (some ⟨g, 5, none⟩)) _; simp only [execOp, Act.eval, h8]; go_simp
          try exact tq
        case s3 =>
          refine fun hs hl => stepG_free [26] [] (by kernel_rfl) rfl ?_
          intro ac W8 hT hI hO; have h26 : ac.tmps.getD 26 undef = _ := hI 26 (by simp); have hE := hT.early (fun v => hl 15 17 v (by kernel_rfl)); obtain ⟨n0, n1, n2, n3, n4, n5⟩ := HNC.out W8 hE; show Brings Try.prog (fun vv w' => Turned (fun _ => False) W8 w' ∧ vv = .string x.name) _; simp only [execOp, Act.eval, h26]; go_simp
          try exact tq
        case s4 =>
          refine fun hs hl => stepG_free [] [6] (by kernel_rfl) rfl ?_
          intro ac W8 hT hI hO; have h6 : ac.tmps.getD 6 undef = .pointer (some ⟨w3.heap.size + 1, 0, none⟩) := hO 6 (by simp); have hE := hT.early (fun v => hl 15 17 v (by kernel_rfl)); have c6 := HC6.out W8 hE; show Brings Try.prog (fun vv w' => Turned (fun _ => False) W8 w' ∧ vv = .slice (some ⟨w3.heap.size, 0, none⟩) L.length L.length) _; simp only [execOp, Act.eval, h6]; go_simp
          try exact tq
        case s5 =>
          refine fun hs hl => stepG_free [] [8] (by kernel_rfl) rfl ?_
          intro ac W8 hT hI hO; have h8 : ac.tmps.getD 8 undef = .pointer (some ⟨g, 0, none⟩) := hO 8 (by simp); show Brings Try.prog (fun vv w' => Turned (fun _ => False) W8 w' ∧ vv = .pointer (some ⟨g, 3, none⟩)) _; simp only [execOp, Act.eval, h8]; go_simp
          try exact tq
        case s6 =>
          refine fun hs hl => stepG_free [29] [] (by kernel_rfl) rfl ?_
          intro ac W8 hT hI hO; have h29 : ac.tmps.getD 29 undef = _ := hI 29 (by simp); have hE := hT.early (fun v => hl 15 17 v (by kernel_rfl)); obtain ⟨n0, n1, n2, n3, n4, n5⟩ := HNC.out W8 hE; show Brings Try.prog (fun vv w' => Turned (fun _ => False) W8 w' ∧ vv = .int .i64 (cb : Int)) _; simp only [execOp, Act.eval, h29]; go_simp
          try exact tq
        case s7 =>
          refine fun hs hl => stepG_free [] [8] (by kernel_rfl) rfl ?_
          intro ac W8 hT hI hO; have h8 : ac.tmps.getD 8 undef = .pointer (some ⟨g, 0, none⟩) := hO 8 (by simp); show Brings Try.prog (fun vv w' => Turned (fun _ => False) W8 w' ∧ vv = .pointer (some ⟨g, 3, none⟩)) _; simp only [execOp, Act.eval, h8]; go_simp
          try exact tq
        case s8 =>
          refine fun hs hl => stepG_free [31] [] (by kernel_rfl) rfl ?_
          intro ac W8 hT hI hO; have h31 : ac.tmps.getD 31 undef = _ := hI 31 (by simp); have hE := hT.early (fun v => hl 15 17 v (by kernel_rfl)); obtain ⟨n0, n1, n2, n3, n4, n5⟩ := HNC.out W8 hE; show Brings Try.prog (fun vv w' => Turned (fun _ => False) W8 w' ∧ vv = .int .i64 (cb : Int)) _; simp only [execOp, Act.eval, h31]; go_simp
          try exact tq
        case s9 =>
          refine fun hs hl => stepG_free [] [8] (by kernel_rfl) rfl ?_
          intro ac W8 hT hI hO; have h8 : ac.tmps.getD 8 undef = .pointer (some ⟨g, 0, none⟩) := hO 8 (by simp); show Brings Try.prog (fun vv w' => Turned (fun _ => False) W8 w' ∧ vv = .pointer (some ⟨g, 2, none⟩)) _; simp only [execOp, Act.eval, h8]; go_simp
          try exact tq
        case s10 =>
          refine fun hs hl => stepG_free [33] [] (by kernel_rfl) rfl ?_
          intro ac W8 hT hI hO; have h33 : ac.tmps.getD 33 undef = _ := hI 33 (by simp); have hE := hT.early (fun v => hl 15 17 v (by kernel_rfl)); obtain ⟨n0, n1, n2, n3, n4, n5⟩ := HNC.out W8 hE; show Brings Try.prog (fun vv w' => Turned (fun _ => False) W8 w' ∧ vv = .int .i64 (ab : Int)) _; simp only [execOp, Act.eval, h33]; go_simp
          try exact tq
        case s11 =>
          refine fun hs hl => stepG_free [32, 34] [] (by kernel_rfl) rfl ?_
          intro ac W8 hT hI hO; have h32 : ac.tmps.getD 32 undef = _ := hI 32 (by simp); have h34 : ac.tmps.getD 34 undef = _ := hI 34 (by simp); have hw := HWR.out; show Brings Try.prog (fun vv w' => Turned (fun _ => False) W8 w' ∧ vv = .int .i64 (ce : Int)) _; simp only [execOp, Act.eval, h32, h34]; go_simp
          try exact tq
        case s12 =>
          refine fun hs hl => stepG_free [28, 30, 35] [] (by kernel_rfl) rfl ?_
          intro ac W8 hT hI hO; have h28 : ac.tmps.getD 28 undef = _ := hI 28 (by simp); have h30 : ac.tmps.getD 30 undef = _ := hI 30 (by simp); have h35 : ac.tmps.getD 35 undef = _ := hI 35 (by simp); obtain ⟨q1, q2, q3, q4, q5⟩ := HCB2.out; show Brings Try.prog (fun vv w' => Turned (fun _ => False) W8 w' ∧ vv = .slice (some ⟨w3.heap.size, cb * 4, none⟩) ab (L.length - cb)) _; simp only [execOp, Act.eval, h28, h30, h35]; go_simp
          try exact tq
        case s13 =>
          refine fun hs hno hl => stepG_free [27, 36] [] (by kernel_rfl) rfl ?_
          intro ac W8 hT hI hO; have h27 : ac.tmps.getD 27 undef = _ := hI 27 (by simp); have h36 : ac.tmps.getD 36 undef = _ := hI 36 (by simp); have hE := hT.early (fun v => hl 15 17 v (by kernel_rfl)); obtain rfl := hT.first hno; show Brings Try.prog (fun vv w' => CompR w3.heap.size i (.mk 2 0 x.name () (((rs.map Tm.bare).drop cb).take ab)) (fun k => k ≠ w3.heap.size ∧ k ≠ w.heap.size + 1) W [(13, vv)] w') _; simp only [execOp, Act.eval, h27, h36]; go_simp; show Calls Try.prog 37 _ W8 _
          (with_reducible refine (HCP.out W8 hE).mono ?_)
          rintro e w' ⟨u, rfl, g1, g2, T'⟩
          exact ⟨_, rfl, hE.trans T', u, rfl, g1, g2.mono (fun k _ hk => hk.elim id (fun c => by have := hE.size; have := HW6.out; have := HWS.out; omega))⟩
        case s14 =>
          refine fun hs hl => stepG_free [24, 25] [] (by kernel_rfl) rfl ?_
          intro ac W8 hT hI hO; have h24 : ac.tmps.getD 24 undef = _ := hI 24 (by simp); have h25 : ac.tmps.getD 25 undef = _ := hI 25 (by simp); have hii : i < L.length := hil; show Brings Try.prog (fun vv w' => Turned (fun _ => False) W8 w' ∧ vv = .pointer (some ⟨w3.heap.size, i * 4, none⟩)) _; simp only [execOp, Act.eval, h24, h25]; go_simp
          try exact tq
        case s15 =>
          refine fun hs hno hl => stepG_free [38, 37] [] (by kernel_rfl) rfl ?_
          intro ac W8 hT hI hO; have h38 : ac.tmps.getD 38 undef = _ := hI 38 (by simp); have h37 : (13, ac.tmps.getD 37 undef) ∈ hs := hI 37 (by simp); obtain ⟨e0, hE, u, x1, x2, x3⟩ := hT.second hno h37; have hcw := (hE.block _ (Array.getElem?_eq_some_iff.1 HCUR.out).1 (fun f => f)).trans HCUR.out; obtain ⟨y0, c0⟩ := row_some (HI2.out.turned0 hE) (i * 4) (by omega); obtain ⟨y1, c1⟩ := row_some (HI2.out.turned0 hE) (i * 4 + 1) (by omega); obtain ⟨y2, c2⟩ := row_some (HI2.out.turned0 hE) (i * 4 + 2) (by omega); obtain ⟨y3, c3⟩ := row_some (HI2.out.turned0 hE) (i * 4 + 3) (by omega); have f0 := (HI2.out.turned0 hE).free rfl (i * 4); have f1 := (HI2.out.turned0 hE).free rfl (i * 4 + 1); have f2 := (HI2.out.turned0 hE).free rfl (i * 4 + 2); have f3 := (HI2.out.turned0 hE).free rfl (i * 4 + 3); show Brings Try.prog (fun vv w' => CompR w3.heap.size i (.mk 2 0 x.name () (((rs.map Tm.bare).drop cb).take ab)) (fun k => k ≠ w3.heap.size ∧ k ≠ w.heap.size + 1) W (hs ++ [(15, vv)]) w') _; rw [e0]; clear e0 hT; simp only [execOp, Act.eval, h38, x1]; go_simp; exact ⟨W8, u, hE, x2, x3, Turned.refl _ _⟩
      case hQ =>
        intro hs vs W9 hall huniq hR hV; obtain ⟨v15, h15⟩ := hall 15 (by simp); obtain ⟨W1, u, T1, g1, g2, T2⟩ := hR.done h15; simp only [List.foldl_cons, List.foldl_nil, List.setIfInBounds_toArray, List.set_cons_zero, List.set_cons_succ]; obtain ⟨TW, hnx⟩ := HNX.out W1 W9 u T1 g2 (HB0.out u g1) T2; clear hall huniq hR hV h15; gi_wp2; exact ⟨keepsFrom_turned TW HCUR.out, kpB_of TW, hnx⟩
  case done =>
    rintro D ys W hD rfl ⟨rs, i1, i2, i3, i4, i5, i6, i7⟩ hKk
    have hal : t.args.length ≤ L.length := by have := Tm.lens_le t.args; have := HN.out; have := HLEN.out; omega
    have hnm : t.name.size ≤ maxLen := (LT.In.flat t HIN.out t (by rw [Tm.flat_eq]; exact List.mem_cons_self ..)).name
    have hbk : (.mk 2 0 t.name () ((rs.map Tm.bare).take t.args.length) : Tm Unit) = Tm.fromT t.bare 0 := by
      have h := Tm.back_head hg hk; unfold Tm.backT at h; rw [i1, foldR_all, HLEN.out, HL.out, HN.out]; exact h
    have hcp := backComp37 (c := 0) (b := t.args.length) i2 i3 t.name hnm (by omega) hsz; rw [Nat.zero_mul, Nat.sub_zero, List.drop_zero, hbk] at hcp; obtain ⟨k0, k1, k2, k3, _⟩ := cells4 i4; have c6 := cell_of_row W (w3.heap.size + 1) 0 _ 22 (0, 0) i6; simp only [List.getElem?_toArray, List.getElem?_cons_zero] at c6
    have hgf : goodB (Tm.fromT t.bare 0) = true := goodB_fromT (by rw [goodB_bare]; exact hg) (Int.le_refl _) (by
      have h1 := vars_le t; have h := hg; unfold goodB at h; simp only [Bool.and_eq_true, decide_eq_true_eq] at h; rw [Tm.vars_bare]
      omega)
    have HCP := hid hcp; have HGF := hid hgf; have H5 := hid i5; have H7 := hid i7; have HK := hid hKk; have hlo : decide ((t.args.length : Int) ≤ (L.length : Int)) = true := decide_eq_true (by omega); have hlo0 : decide ((0 : Int) ≤ (t.args.length : Int)) = true := decide_eq_true (by omega); have hW1 := (Array.getElem?_eq_some_iff.1 i5).1; have HW1 := hid hW1; have hDl := (Array.getElem?_eq_some_iff.1 hKk).1; have HDL := hid hDl; clear hbk hcp hgf i1 i2 i3 i4 i5 i6 i7 hKk hnm
    gi_wp2_with (first
      | (refine ⟨trivial, ?_⟩; gi_at_call 38; have HU := HU; refine (callsIn_wide.2 (goodVal' (b := true) HU.out.2 (good_slimB (by rw [HU.out.1]; exact HGF.out)) (by rw [← goodB_bare, HU.out.1]; exact HGF.out))).mono ?_; rintro e w7 ⟨rfl, T7⟩; obtain ⟨c0, c1, c2, c3, _⟩ := cells4 ((T7.block _ (by simp) (fun f => f)).trans (heap_alloc_new w6 (.cells #[.int .i64 u.kind, .int .i64 u.n, .string u.name, .slice u.at_.1 u.args.length u.at_.2] 27))); have hb1 := ((HT6.out.trans T7).block _ HW1.out (fun f => f)).trans H5.out; obtain ⟨d0, d1, d2, d3, f0, f1, f2, f3⟩ := cells4 hb1; have HB1F := hid hb1; have HT7 := hid T7; clear hb1 T7)
      | (refine ⟨trivial, ?_⟩; gi_at_call 37; refine (callsIn_wide.2 HCP.out).mono ?_; rintro e w6 ⟨u, rfl, hub, hui, T6⟩; have hb9 := heap_alloc_new w6 (.cells #[.int .i64 u.kind, .int .i64 u.n, .string u.name, .slice u.at_.1 u.args.length u.at_.2] 27); obtain ⟨c0, c1, c2, c3, _⟩ := cells4 hb9; have HU := hid (And.intro hub (hui.turned0 ((Turned.refl (fun _ => False) w6).alloc (.cells #[.int .i64 u.kind, .int .i64 u.n, .string u.name, .slice u.at_.1 u.args.length u.at_.2] 27)))); have HT6 : Hid (Turned (fun _ => False) W (w6.alloc (.cells #[.int .i64 u.kind, .int .i64 u.n, .string u.name, .slice u.at_.1 u.args.length u.at_.2] 27))) := T6.alloc (.cells #[.int .i64 u.kind, .int .i64 u.n, .string u.name, .slice u.at_.1 u.args.length u.at_.2] 27); clear hb9 hub hui T6))
    have hset := set4 (a' := .int .i64 u.kind) (b' := .int .i64 u.n) (c' := .string u.name) (d' := .slice u.at_.1 u.args.length u.at_.2) HB1F.out; have Tq := turned_store4 w7 (w.heap.size + 1) (.int .i64 u.kind) (.int .i64 u.n) (.string u.name) (.slice u.at_.1 u.args.length u.at_.2); have hD7 : w7.heap[D]? = some (.deferred (some [])) := ((HT6.out.trans HT7.out).block _ HDL.out (fun f => f)).trans HK.out; have hD2 := (Tq.block D (Array.getElem?_eq_some_iff.1 hD7).1 (by omega)).trans hD7; refine ⟨by simp, .inl ⟨_, _, rfl, run_takeDeferred hD2, ?_⟩⟩; have hgr := grownBy_putObj' ((((w7.setCell ⟨w.heap.size + 1, 0, none⟩ (.int .i64 u.kind)).setCell ⟨w.heap.size + 1, 1, none⟩ (.int .i64 u.n)).setCell ⟨w.heap.size + 1, 2, none⟩ (.string u.name)).setCell ⟨w.heap.size + 1, 3, none⟩ (.slice u.at_.1 u.args.length u.at_.2)) D (.deferred none)
    have hr : ∀ r, some D = some r → ∃ o : Obj, ((((w7.setCell ⟨w.heap.size + 1, 0, none⟩ (.int .i64 u.kind)).setCell ⟨w.heap.size + 1, 1, none⟩ (.int .i64 u.n)).setCell ⟨w.heap.size + 1, 2, none⟩ (.string u.name)).setCell ⟨w.heap.size + 1, 3, none⟩ (.slice u.at_.1 u.args.length u.at_.2)).heap[r]? = some o ∧ o.isCells = false := fun r e => by cases e; exact ⟨_, hD2, rfl⟩
    have hset' := (grownBy_keeps_cells hgr hr hset rfl).trans hset; refine ⟨.tuple #[.agg #[.int .i64 u.kind, .int .i64 u.n, .string u.name, .slice u.at_.1 u.args.length u.at_.2], .int .i64 0], results_cell_tmp1 Try.results94 _ _ (w.heap.size + 1) 27 _ (0, 0) _ rfl hset' Try.underlying27 rfl (by kernel_rfl), u, rfl, HU.out.1, ?_, ?_⟩
    · have hi := LT.In.turned (q := fun _ => True) Tq (fun k _ h e => h.elim (fun h => h.2 e) (fun h => by have := HW1.out; omega)) (fun _ _ _ => trivial) u (HU.out.2.turned0 HT7.out)
      exact LT.In.kept (fun a v h => cell_kept h hgr hr) u hi
    · have T4 : Turned (fun _ => False) w ((((w7.setCell ⟨w.heap.size + 1, 0, none⟩ (.int .i64 u.kind)).setCell ⟨w.heap.size + 1, 1, none⟩ (.int .i64 u.n)).setCell ⟨w.heap.size + 1, 2, none⟩ (.string u.name)).setCell ⟨w.heap.size + 1, 3, none⟩ (.slice u.at_.1 u.args.length u.at_.2)) := ((H7.out.trans HT6.out).trans HT7.out).step Tq (fun i hi e => by omega)
      exact T4.grown hgr (fun k e => by cases e; exact .inl (by omega))
  case stop =>
    rintro D cc pre W hD _ h _
    exact h.elim
end Go.Proofs.Ytoihjobdfjajfaa
namespace Go.Proofs.Ytoihjobdfjajfaa
open Go.RowKit Go.Maps
def W105 (p : Nat → Prop) (m : Nat) (l : Tm.Trail) (t : LT) (w : World) (e : Ending) (w' : World) : Prop :=
  ∃ u : LT, e = .returned (.tuple #[.agg #[.int .i64 u.kind, .int .i64 u.n, .string u.name, .slice u.at_.1 u.args.length u.at_.2], .int .i64 (wholeE m l t.bare)]) ∧ u.bare = wholeT m l t.bare ∧ u.In (fun k => p k ∨ w.heap.size ≤ k) w' ∧ Turned (fun _ => False) w w'
theorem W105.no {p : Nat → Prop} {m : Nat} {l : Tm.Trail} {t : LT} {w w' : World} {E : Int} (hE : wholeE m l t.bare = E) (h0 : ¬ E = 0) (T : Turned (fun _ => False) w w') :
    W105 p m l t w (.returned (.tuple #[.agg #[.int .i64 0, .int .i64 0, .string ⟨#[]⟩, .slice none 0 0], .int .i64 E])) w' :=
  ⟨leaf 0 0 ByteArray.empty, by rw [hE]; rfl, by unfold wholeT; rw [hE, if_neg h0], leafIn' (i64_lit _ (by omega)) (i64_lit _ (by omega)) (by unfold maxLen; decide), T⟩
end Go.Proofs.Ytoihjobdfjajfaa
namespace Go.Proofs.Ytoihjobdfjajfaa
open Go.RowKit Go.Maps
theorem wholeSlim {m : Nat} {l : Tm.Trail} {t : Tm Unit} {u : LT} (hl : Tm.okT m l) (h : u.bare = wholeT m l t) : slim u := by
  by_cases hE : wholeE m l t = 0
  · obtain ⟨h1, h2⟩ := wholeE_ok hE
    have e : u.bare = Tm.img l t := by rw [h]; unfold wholeT; rw [if_pos hE]
    exact good_slimB (by rw [e]; exact (Tm.ownB_iff.1 (Tm.whole_good hl h1 h2)).1)
  · have e : u.bare = (leaf 0 0 ByteArray.empty).bare := by rw [h]; unfold wholeT; rw [if_neg hE]
    exact slim_eq' e.symm (leaf_slim _ _ _)
end Go.Proofs.Ytoihjobdfjajfaa
namespace Go.Proofs.Ytoihjobdfjajfaa
open Go.RowKit Go.Maps
structure SetR (jT jI gt gi m ct ci N : Nat) (t : LT) (us : List LT) (is : List Bool) (w0 : World) (hs : Hist) (W : World) : Prop where
  tw : Turned (fun k => k = gt ∨ k = gi) w0 W
  rt : ∃ u : List LT, Row W 41 4 (.slice (some ⟨gt, 0, none⟩) m ct) m (u.flatMap LT.cells) ∧ ((∀ v, (jT, v) ∉ hs) → u = us) ∧ ∀ v, (jT, v) ∈ hs → u = us.set N t
  ri : ∃ u : List Bool, Row W 4 1 (.slice (some ⟨gi, 0, none⟩) m ci) m (u.map Value.bool) ∧ ((∀ v, (jI, v) ∉ hs) → u = is) ∧ ∀ v, (jI, v) ∈ hs → u = is.set N true
section
variable {jT jI gt gi m ct ci N : Nat} {t : LT} {us : List LT} {is : List Bool} {w0 W W' : World} {hs : Hist}
theorem SetR.start (h1 : Row w0 41 4 (.slice (some ⟨gt, 0, none⟩) m ct) m (us.flatMap LT.cells)) (h2 : Row w0 4 1 (.slice (some ⟨gi, 0, none⟩) m ci) m (is.map Value.bool)) (T : Turned (fun _ => False) w0 W) : SetR jT jI gt gi m ct ci N t us is w0 [] W :=
  ⟨T.mono (fun _ _ f => f.elim), ⟨us, h1.turned0 T, fun _ => rfl, fun v hv => (List.not_mem_nil hv).elim⟩, ⟨is, h2.turned0 T, fun _ => rfl, fun v hv => (List.not_mem_nil hv).elim⟩⟩
theorem SetR.turned0 (h : SetR jT jI gt gi m ct ci N t us is w0 hs W) (T : Turned (fun _ => False) W W') : SetR jT jI gt gi m ct ci N t us is w0 hs W' := by
  obtain ⟨u, a1, a2⟩ := h.rt; obtain ⟨v, b1, b2⟩ := h.ri; exact ⟨h.tw.trans (T.mono (fun _ _ f => f.elim)), ⟨u, a1.turned0 T, a2⟩, ⟨v, b1.turned0 T, b2⟩⟩
theorem SetR.done (h : SetR jT jI gt gi m ct ci N t us is w0 hs W) (h1 : ∃ v, (jT, v) ∈ hs) (h2 : ∃ v, (jI, v) ∈ hs) :
    Row W 41 4 (.slice (some ⟨gt, 0, none⟩) m ct) m ((us.set N t).flatMap LT.cells) ∧ Row W 4 1 (.slice (some ⟨gi, 0, none⟩) m ci) m ((is.set N true).map Value.bool) ∧ Turned (fun k => k = gt ∨ k = gi) w0 W := by
  obtain ⟨u, a1, a2, a3⟩ := h.rt; obtain ⟨v, b1, b2, b3⟩ := h.ri; obtain ⟨x, hx⟩ := h1; obtain ⟨y, hy⟩ := h2; rw [a3 x hx] at a1; rw [b3 y hy] at b1; exact ⟨a1, b1, h.tw⟩
end
end Go.Proofs.Ytoihjobdfjajfaa
namespace Go.Proofs.Ytoihjobdfjajfaa
open Go.RowKit Go.Maps
theorem DT.bound {m : Nat} {l : Tm.Trail} {us : List LT} {is : List Bool} {n : Int} {N : Nat} {t : LT} (R : DT m l us is (Tm.dom l).reverse) (hn : n = (N : Int)) (hN : N < m) (hi : is.length = m) (hE : Tm.okT m ((n, t.bare) :: l)) :
    DT m ((n, t.bare) :: l) (us.set N t) (is.set N true) ((Tm.dom l).reverse ++ [(N : Int)]) := by
  subst hn; refine ⟨hE, by rw [List.length_set]; exact R.len, fun i hi' => ?_, fun i b hb => ?_, by simp [Tm.dom]⟩
  · by_cases he : N = i
    · subst he
      rw [List.getElem?_set_self (by omega), decide_eq_true (by simp [Tm.dom])]
    · rw [List.getElem?_set_ne he, R.set i hi']
      have : ((i : Int) ∈ Tm.dom (((N : Int), t.bare) :: l)) ↔ ((i : Int) ∈ Tm.dom l) := by
        simp only [Tm.dom, List.map_cons, List.mem_cons]; exact ⟨fun h => h.elim (fun h => by omega) id, .inr⟩
      simp only [this]
  · unfold Tm.look at hb
    by_cases he : (N : Int) = i
    · rw [if_pos he] at hb
      injection hb with hb
      subst he; refine ⟨t, ?_, hb⟩; rw [Int.toNat_natCast, List.getElem?_set_self (by have := R.len; omega)]
    · rw [if_neg he] at hb
      obtain ⟨u, hu, hb2⟩ := R.val i b hb; have h0 := (Tm.okT_mem R.ok (Tm.look_mem hb)).1; refine ⟨u, ?_, hb2⟩; rw [List.getElem?_set_ne (by intro c; apply he; simp only [] at h0; omega)]; exact hu
end Go.Proofs.Ytoihjobdfjajfaa
namespace Go.Proofs.Ytoihjobdfjajfaa
open Go.RowKit Go.Maps
def BK (m bb : Nat) (tr : Tm.Trail) (bx : List (Nat × Obj)) (ts : List LT) (wA w : World) : Prop :=
  ∃ (O : Nat → Prop) (l : TL), bt l = tr ∧ BO (fun k => k < w.heap.size ∧ ¬ O k) bb O m l w ∧ (∀ k, O k → wA.heap.size ≤ k) ∧ Turned (fun _ => False) wA w ∧ (∀ b ∈ bx, w.heap[b.1]? = some b.2 ∧ ¬ O b.1) ∧ ∀ t ∈ ts, t.In (fun k => k < w.heap.size ∧ ¬ O k) w
section
variable {m bb : Nat} {tr tr' : Tm.Trail} {bx : List (Nat × Obj)} {ts : List LT} {wA w w' w1 : World} {x : LT}
theorem BK.turned0 (h : BK m bb tr bx ts wA w) (T : Turned (fun _ => False) w w') : BK m bb tr bx ts wA w' := by
  obtain ⟨O, l, h1, h2, h3, h4, h5, h6⟩ := h; exact ⟨O, l, h1, (h2.turned0 T).wide (fun k hk => ⟨Nat.lt_of_lt_of_le hk.1 T.size, hk.2⟩) (fun k hk => hk), h3, h4.trans T, fun b hb => ⟨(T.block _ (Array.getElem?_eq_some_iff.1 (h5 b hb).1).1 (fun f => f)).trans (h5 b hb).1, (h5 b hb).2⟩, fun t ht => (((h6 t ht).turned0 T).mono (fun k hk hp => ⟨hk, hp.2⟩))⟩
theorem BK.old (h : BK m bb tr bx ts wA w) : Turned (fun _ => False) wA w := by obtain ⟨O, l, h1, h2, h3, h4, _⟩ := h; exact h4
theorem BK.ok (h : BK m bb tr bx ts wA w) : Tm.okT m tr := by obtain ⟨O, l, rfl, h2, h3, h4, _⟩ := h; exact h2.ok
theorem BK.boxes (h : BK m bb tr bx ts wA w) : ∀ b ∈ bx, w.heap[b.1]? = some b.2 := by obtain ⟨O, l, h1, h2, h3, h4, h5, h6⟩ := h; exact fun b hb => (h5 b hb).1
theorem BK.terms (h : BK m bb tr bx ts wA w) : ∀ t ∈ ts, t.In (fun _ => True) w := by obtain ⟨O, l, h1, h2, h3, h4, h5, h6⟩ := h; exact fun t ht => (h6 t ht).mono (fun _ _ _ => trivial)
theorem BK.start (h : BLoop wA.heap.size bb m [] wA w) : BK m bb [] [] [] wA w := by
  obtain ⟨O, h1, h2, h3⟩ := h; exact ⟨O, [], rfl, h1.wide (fun k hk => ⟨Nat.lt_of_lt_of_le hk h3.size, fun c => by have := h2 k c; omega⟩) (fun k hk => hk), h2, h3, fun b hb => (by cases hb), fun b hb => (by cases hb)⟩
theorem BK.box (h : BK m bb tr bx ts wA w) (o : Obj) : BK m bb tr ((w.heap.size, o) :: bx) ts wA (w.alloc o) := by
  have T := (Turned.refl (fun _ => False) w).alloc o; obtain ⟨O, l, h1, h2, h3, h4, h5, h6⟩ := h; refine ⟨O, l, h1, (h2.turned0 T).wide (fun k hk => ⟨Nat.lt_of_lt_of_le hk.1 T.size, hk.2⟩) (fun k hk => hk), h3, h4.trans T, fun b hb => ?_, fun t ht => (((h6 t ht).turned0 T).mono (fun k hk hp => ⟨hk, hp.2⟩))⟩
  rcases List.mem_cons.1 hb with rfl | hb
  · exact ⟨heap_alloc_new w o, fun c => by have := h2.lt _ c; simp only [] at this; omega⟩
  · exact ⟨(T.block _ (Array.getElem?_eq_some_iff.1 (h5 b hb).1).1 (fun f => f)).trans (h5 b hb).1, (h5 b hb).2⟩
theorem BK.after {m' : Nat} {O : Nat → Prop} {l' : TL} (hO : ∀ k, O k → wA.heap.size ≤ k) (T : Turned (fun _ => False) wA w) (hb : ∀ b ∈ bx, w.heap[b.1]? = some b.2 ∧ ¬ O b.1) (ht : ∀ t ∈ ts, t.In (fun k => k < w.heap.size ∧ ¬ O k) w) (ha : After (fun k => k < w.heap.size ∧ ¬ O k) bb O m' l' w w') : BK m' bb (bt l') bx ts wA w' := by
  obtain ⟨O', a1, a2, a3⟩ := ha; refine ⟨O', l', rfl, a1.wide (fun k hk => ⟨Nat.lt_of_lt_of_le hk.1 a3.size, fun c => hk.2 (a2 k c hk.1)⟩) (fun k hk => hk), fun k hk => ?_, T.step a3 (fun i hi e => by have := hO i e; omega), fun b hbm => ?_, fun t htm => LT.In.turned a3 (fun k hk hp c => hp.2 c) (fun k hk hp => ⟨Nat.lt_of_lt_of_le hk a3.size, fun c => hp.2 (a2 k c hk)⟩) t (ht t htm)⟩
  · rcases Nat.lt_or_ge k w.heap.size with h | h
    · exact hO k (a2 k hk h)
    · have := T.size; omega
  · have hl := (Array.getElem?_eq_some_iff.1 (hb b hbm).1).1
    exact ⟨(a3.block _ hl (hb b hbm).2).trans (hb b hbm).1, fun c => (hb b hbm).2 (a2 _ c hl)⟩
theorem BK.term (h : BK m bb tr bx ts wA w1) (T : Turned (fun _ => False) w1 w) (hx : x.In (fun k => w1.heap.size ≤ k) w) : ∃ (O : Nat → Prop) (l : TL), bt l = tr ∧ BO (fun k => k < w.heap.size ∧ ¬ O k) bb O m l w ∧ (∀ k, O k → wA.heap.size ≤ k) ∧ Turned (fun _ => False) wA w ∧ ((∀ b ∈ bx, w.heap[b.1]? = some b.2 ∧ ¬ O b.1) ∧ ∀ t ∈ ts, t.In (fun k => k < w.heap.size ∧ ¬ O k) w) ∧ x.In (fun k => k < w.heap.size ∧ ¬ O k) w := by
  obtain ⟨O, l, h1, h2, h3, h4, hb, ht⟩ := h; refine ⟨O, l, h1, (h2.turned0 T).wide (fun k hk => ⟨Nat.lt_of_lt_of_le hk.1 T.size, hk.2⟩) (fun k hk => hk), h3, h4.trans T, ⟨fun b hbm => ⟨(T.block _ (Array.getElem?_eq_some_iff.1 (hb b hbm).1).1 (fun f => f)).trans (hb b hbm).1, (hb b hbm).2⟩, fun t htm => (((ht t htm).turned0 T).mono (fun k hk hp => ⟨hk, hp.2⟩))⟩, hx.mono (fun k hk hp => ⟨hk, fun c => ?_⟩)⟩; have := h2.lt k c; omega
theorem BK.set (h : BK m bb tr bx ts wA w1) (T : Turned (fun _ => False) w1 w) (hx : x.In (fun k => w1.heap.size ≤ k) w) (hs : slim x) (n : Int) (h64 : I64 n) (hE : Tm.setE m tr n x.bare = 0) :
    Calls Try.prog 88 #[.pointer (some ⟨bb, 0, none⟩), .int .i64 n, .agg #[.int .i64 x.kind, .int .i64 x.n, .string x.name, .slice x.at_.1 x.args.length x.at_.2]] w fun e w' => e = .returned (.int .i64 0) ∧ BK m bb ((n, x.bare) :: tr) bx ts wA w' := by
  obtain ⟨O, l, rfl, h2, h3, h4, ⟨hb, ht⟩, h5⟩ := h.term T hx; have := setO88 h2 h5 hs n h64; rw [LT.val_eq, hE] at this; refine this.mono ?_
  rintro e w' ⟨rfl, l', hl, ha⟩
  refine ⟨rfl, ?_⟩; rw [if_pos rfl] at hl; rw [← hl]; exact BK.after h3 h4 hb ht ha
theorem BK.whole (h : BK m bb tr bx ts wA w1) (T : Turned (fun _ => False) w1 w) (hx : x.In (fun k => w1.heap.size ≤ k) w) (hs : slim x) {E : Int} (hE : wholeE m tr x.bare = E) :
    Calls Try.prog 89 #[.pointer (some ⟨bb, 0, none⟩), .agg #[.int .i64 x.kind, .int .i64 x.n, .string x.name, .slice x.at_.1 x.args.length x.at_.2]] w fun e w' => ∃ u : LT, e = .returned (.tuple #[.agg #[.int .i64 u.kind, .int .i64 u.n, .string u.name, .slice u.at_.1 u.args.length u.at_.2], .int .i64 E]) ∧ u.bare = wholeT m tr x.bare ∧ BK m bb tr bx (u :: ts) wA w' ∧ Turned (fun _ => False) w w' := by
  obtain ⟨O, l, rfl, h2, h3, h4, ⟨hb, ht⟩, h5⟩ := h.term T hx; have hl := h2.lt; have hBK : BK m bb (bt l) bx ts wA w := ⟨O, l, rfl, h2, h3, h4, hb, ht⟩; refine (wholeVal h2 h5 hs hE).mono ?_
  rintro e w' ⟨u, h1, hu2, hu3, T4⟩
  refine ⟨u, h1, hu2, ?_, T4⟩; refine ⟨O, l, rfl, (h2.turned0 T4).wide (fun k hk => ⟨Nat.lt_of_lt_of_le hk.1 T4.size, hk.2⟩) (fun k hk => hk), h3, h4.trans T4, fun b hbm => ⟨(T4.block _ (Array.getElem?_eq_some_iff.1 (hb b hbm).1).1 (fun f => f)).trans (hb b hbm).1, (hb b hbm).2⟩, fun t htm => ?_⟩
  rcases List.mem_cons.1 htm with rfl | htm
  · exact hu3.mono (fun k hk hp => ⟨hk, fun c => by rcases hp with hp | hp; (exact hp.2 c); (have := hl k c; omega)⟩)
  · exact (((ht t htm).turned0 T4).mono (fun k hk hp => ⟨hk, hp.2⟩))
theorem BK.has (h : BK m bb tr bx ts wA w1) (T : Turned (fun _ => False) w1 w) (hx : x.In (fun k => w1.heap.size ≤ k) w) (hs : slim x) {n most : Int} (hm : most ≤ 100000) (hm0 : 0 ≤ most) {b : Bool} {c : Nat} (hR : hasR m tr n x.bare most.toNat = (b, c)) :
    Calls Try.prog 106 #[.pointer (some ⟨bb, 0, none⟩), .int .i64 n, .agg #[.int .i64 x.kind, .int .i64 x.n, .string x.name, .slice x.at_.1 x.args.length x.at_.2], .int .i64 most] w fun e w' => e = .returned (.tuple #[.bool b, .int .i64 c]) ∧ Turned (fun _ => False) w w' := by
  obtain ⟨O, l, rfl, h2, h3, h4, ⟨hb, ht⟩, h5⟩ := h.term T hx; have := has106 (n := n) (most := most) h2 h5 hs hm (by omega); rw [LT.val_eq, hR] at this; exact this
theorem BK.walk (h : BK m bb tr bx ts wA w1) (T : Turned (fun _ => False) w1 w) (hx : x.In (fun k => w1.heap.size ≤ k) w) (hg : ∀ z ∈ x.bare.flat, goodOneB z = true) {r : Tm Unit} (hr : Tm.walkT tr x.bare = r) :
    Calls Try.prog 90 #[.pointer (some ⟨bb, 0, none⟩), .agg #[.int .i64 x.kind, .int .i64 x.n, .string x.name, .slice x.at_.1 x.args.length x.at_.2]] w fun e w' => ∃ u : LT, e = .returned (.agg #[.int .i64 u.kind, .int .i64 u.n, .string u.name, .slice u.at_.1 u.args.length u.at_.2]) ∧ u.bare = r ∧ BK m bb tr bx (u :: ts) wA w' ∧ Turned (fun _ => False) w w' := by
  obtain ⟨O, l, rfl, h2, h3, h4, ⟨hb, ht⟩, h5⟩ := h.term T hx; have := walkO90 h2 h5 hg; rw [LT.val_eq] at this; refine this.mono ?_
  rintro e w' ⟨u, rfl, hu1, hu2, T4⟩
  refine ⟨u, by rw [LT.val_eq], hu2.trans hr, ?_, T4⟩; refine ⟨O, l, rfl, (h2.turned0 T4).wide (fun k hk => ⟨Nat.lt_of_lt_of_le hk.1 T4.size, hk.2⟩) (fun k hk => hk), h3, h4.trans T4, fun b hbm => ⟨(T4.block _ (Array.getElem?_eq_some_iff.1 (hb b hbm).1).1 (fun f => f)).trans (hb b hbm).1, (hb b hbm).2⟩, fun t htm => ?_⟩
  rcases List.mem_cons.1 htm with rfl | htm
  · exact hu1.mono (fun k hk hp => ⟨hk, hp.2⟩)
  · exact (((ht t htm).turned0 T4).mono (fun k hk hp => ⟨hk, hp.2⟩))
theorem BK.len (h : BK m bb tr bx ts wA w) : Calls Try.prog 107 #[.pointer (some ⟨bb, 0, none⟩)] w fun e w' => e = .returned (.int .i64 m) ∧ Turned (fun _ => False) w w' := by
  obtain ⟨O, l, rfl, h2, h3, h4, hb, ht⟩ := h; exact lenO107 h2
end
end Go.Proofs.Ytoihjobdfjajfaa
namespace Go.Proofs.Ytoihjobdfjajfaa
open Go.RowKit Go.Maps
def BPQ (N bb wb m mw : Nat) (tr lw : Tm.Trail) (bx : List (Nat × Obj)) (w1 W : World) : Prop := ∃ (q : Nat → Prop) (tl : TL), (∀ k, k < N → q k) ∧ bt tl = tr ∧ ∃ O D, BD2 q bb wb O D m mw tl lw W ∧ (∀ k, O k → N ≤ k) ∧ (∀ k, D k → N ≤ k) ∧ Turned (fun _ => False) w1 W ∧ ∀ b ∈ bx, W.heap[b.1]? = some b.2 ∧ ¬ O b.1 ∧ ¬ D b.1
section
variable {N bb wb m mw : Nat} {tr lw tr' lw' : Tm.Trail} {bx : List (Nat × Obj)} {w1 W W' : World} {x t X : LT} {m' : Nat}
theorem BPQ.turned0 (h : BPQ N bb wb m mw tr lw bx w1 W) (T : Turned (fun _ => False) W W') : BPQ N bb wb m mw tr lw bx w1 W' := by
  obtain ⟨q, l2, h1, h2, O, D, b1, b2, b3, b4, b5⟩ := h; exact ⟨q, l2, h1, h2, O, D, b1.turned0 T, b2, b3, b4.trans T, fun b hb => ⟨(T.block _ (Array.getElem?_eq_some_iff.1 (b5 b hb).1).1 (fun f => f)).trans (b5 b hb).1, (b5 b hb).2⟩⟩
theorem BPQ.old (h : BPQ N bb wb m mw tr lw bx w1 W) : Turned (fun _ => False) w1 W := by obtain ⟨q, l2, h1, h2, O, D, b1, b2, b3, b4, b5⟩ := h; exact b4
theorem BPQ.ok (h : BPQ N bb wb m mw tr lw bx w1 W) : Tm.okT m tr := by obtain ⟨q, l2, h1, rfl, O, D, b1, _⟩ := h; exact b1.b.ok
theorem BPQ.most (h : BPQ N bb wb m mw tr lw bx w1 W) : m ≤ 65536 := by obtain ⟨q, l2, h1, rfl, O, D, b1, _⟩ := h; exact b1.b.most
theorem BPQ.boxes (h : BPQ N bb wb m mw tr lw bx w1 W) : ∀ b ∈ bx, W.heap[b.1]? = some b.2 := by obtain ⟨q, l2, h1, h2, O, D, b1, b2, b3, b4, b5⟩ := h; exact fun b hb => (b5 b hb).1
theorem BPQ.drop (h : BPQ N bb wb m mw tr lw bx w1 W) : BPQ N bb wb m mw tr lw [] w1 W := by obtain ⟨q, l2, h1, h2, O, D, b1, b2, b3, b4, b5⟩ := h; exact ⟨q, l2, h1, h2, O, D, b1, b2, b3, b4, fun b hb => by cases hb⟩
theorem BPQ.box (h : BPQ N bb wb m mw tr lw bx w1 W) (o : Obj) : BPQ N bb wb m mw tr lw ((W.heap.size, o) :: bx) w1 (W.alloc o) := by
  have T := (Turned.refl (fun _ => False) W).alloc o; obtain ⟨q, l2, h1, h2, O, D, b1, b2, b3, b4, b5⟩ := h; refine ⟨q, l2, h1, h2, O, D, b1.turned0 T, b2, b3, b4.trans T, fun b hb => ?_⟩
  rcases List.mem_cons.1 hb with rfl | hb
  · exact ⟨heap_alloc_new W o, fun c => Nat.lt_irrefl _ (b1.b.lt _ c), fun c => Nat.lt_irrefl _ (b1.d.lt _ c)⟩
  · exact ⟨(T.block _ (Array.getElem?_eq_some_iff.1 (b5 b hb).1).1 (fun f => f)).trans (b5 b hb).1, (b5 b hb).2⟩
theorem BPQ.stepB {q O D : Nat → Prop} {l l' : TL} (hN : N = w1.heap.size) (h1 : ∀ k, k < N → q k) (b1 : BD2 q bb wb O D m mw l lw W) (b2 : ∀ k, O k → N ≤ k) (b3 : ∀ k, D k → N ≤ k) (b4 : Turned (fun _ => False) w1 W) (b5 : ∀ b ∈ bx, W.heap[b.1]? = some b.2 ∧ ¬ O b.1 ∧ ¬ D b.1) (hl : bt l' = tr') (ha : After q bb O m' l' W W') : BPQ N bb wb m' mw tr' lw bx w1 W' := by
  obtain ⟨O', a1, a2, a3⟩ := b1.stepB ha; refine ⟨q, l', h1, hl, O', D, a1, fun k hk => ?_, b3, b4.step a3 (fun i hi e => by have := b2 i e; omega), fun b hb => ?_⟩
  · rcases Nat.lt_or_ge k W.heap.size with h | h
    · exact b2 k (a2 k hk h)
    · have := b4.size; omega
  · obtain ⟨c1, c2, c3⟩ := b5 b hb
    have hlt := (Array.getElem?_eq_some_iff.1 c1).1; exact ⟨(a3.block _ hlt c2).trans c1, fun e => c2 (a2 _ e hlt), c3⟩
end
def AppB (rv : Value) (n : Nat) (xs : List Value) (N : Int) (wb : Nat) (A B : Value) (w0 : World) : List Value → World → Prop
  | [], W => Turned (fun _ => False) w0 W
  | [s], W => Turned (fun _ => False) w0 W ∧ ∃ g0, s = .slice (some ⟨g0, 0, none⟩) 1 1 ∧ W.heap[g0]? = some (.cells #[.int .i64 N] 2 (0, 0))
  | [_, a], W => ∃ g cap, a = .slice (some ⟨g, 0, none⟩) (n + 1) cap ∧ Row W 2 1 (.slice (some ⟨g, 0, none⟩) (n + 1) cap) (n + 1) (xs ++ [.int .i64 N]) ∧ (some g = rv.ownBlock ∨ w0.heap.size ≤ g) ∧ Turned (fun k => rv.ownBlock = some k) w0 W
  | [_, _, _], W => ∃ g cap, Row W 2 1 (.slice (some ⟨g, 0, none⟩) (n + 1) cap) (n + 1) (xs ++ [.int .i64 N]) ∧ (some g = rv.ownBlock ∨ w0.heap.size ≤ g) ∧ Turned (fun k => k = wb ∨ rv.ownBlock = some k) w0 W ∧ W.heap[wb]? = some (.cells #[A, B, .slice (some ⟨g, 0, none⟩) (n + 1) cap] 113 (0, 0))
  | _, _ => False
section
variable {rv A B : Value} {n : Nat} {xs : List Value} {N : Int} {wb : Nat} {w0 : World}
theorem AppB.turned0 : ∀ (hs : List Value) (w w' : World), AppB rv n xs N wb A B w0 hs w → Turned (fun _ => False) w w' → AppB rv n xs N wb A B w0 hs w'
  | [], _, _, h, T => Turned.trans h T
  | [_], _, _, ⟨h1, g0, h2, h3⟩, T => ⟨h1.trans T, g0, h2, (T.block _ (Array.getElem?_eq_some_iff.1 h3).1 (fun f => f)).trans h3⟩
  | [_, _], _, _, ⟨g, cap, h1, h2, h3, h4⟩, T => ⟨g, cap, h1, h2.turned0 T, h3, h4.trans (T.mono (fun _ _ f => f.elim))⟩
  | [_, _, _], _, _, ⟨g, cap, h2, h3, h4, h5⟩, T => ⟨g, cap, h2.turned0 T, h3, h4.trans (T.mono (fun _ _ f => f.elim)), (T.block _ (Array.getElem?_eq_some_iff.1 h5).1 (fun f => f)).trans h5⟩
  | _ :: _ :: _ :: _ :: _, _, _, h, _ => h.elim
theorem AppB.turned : ∀ (hs : List Value) (W : World), hs.length ≤ 2 → AppB rv n xs N wb A B w0 hs W → Turned (fun k => rv.ownBlock = some k) w0 W
  | [], _, _, h => Turned.mono h (fun _ _ f => f.elim)
  | [_], _, _, h => h.1.mono (fun _ _ f => f.elim)
  | [_, _], _, _, ⟨_, _, _, _, _, h⟩ => h
end
def UndS (b1 b2 : Bool) (Q1 Q2 : World → Prop) (w0 : World) : List Value → World → Prop
  | [], W => Turned (fun _ => False) w0 W
  | [a], W => a = .bool b1 ∧ Q1 W
  | [a, b], W => a = .bool b1 ∧ b = .bool b2 ∧ Q2 W
  | _, _ => False
theorem UndS.turned0 {b1 b2 : Bool} {Q1 Q2 : World → Prop} {w0 : World} (h1 : ∀ W W', Q1 W → Turned (fun _ => False) W W' → Q1 W') (h2 : ∀ W W', Q2 W → Turned (fun _ => False) W W' → Q2 W') : ∀ (hs : List Value) (w w' : World), UndS b1 b2 Q1 Q2 w0 hs w → Turned (fun _ => False) w w' → UndS b1 b2 Q1 Q2 w0 hs w'
  | [], _, _, h, T => Turned.trans h T
  | [_], _, _, h, T => ⟨h.1, h1 _ _ h.2 T⟩
  | [_, _], _, _, h, T => ⟨h.1, h.2.1, h2 _ _ h.2.2 T⟩
  | _ :: _ :: _ :: _, _, _, h, _ => h.elim
end Go.Proofs.Ytoihjobdfjajfaa
namespace Go.Proofs.Ytoihjobdfjajfaa
open Go.RowKit Go.Maps
def PairA (p : Nat → Prop) (wb : Nat) (O : Nat → Prop) (C m : Nat) (l : Tm.Trail) (w w' : World) : Prop :=
  ∃ O' : Nat → Prop, DO p wb O' m l w' ∧ (∀ k, O' k → k < w.heap.size → O k) ∧ Turned (fun k => O k ∨ k = C) w w'
def PairQ (p : Nat → Prop) (wb : Nat) (O : Nat → Prop) (C m : Nat) (l : Tm.Trail) (w : World) : Tm.UR → Ending → World → Prop
  | .ok l' left', e, w' => e = .returned (.bool true) ∧ PairA p wb O C m l' w w' ∧ ∃ c' : Nat, w'.heap[C]? = some (.cells #[.int .i64 c'] 3 (0, 0)) ∧ c' + left' = 2000
  | .no q, e, w' => e = .returned (.bool false) ∧ ∃ (a : Tm.Trail) (c' : Nat), PairA p wb O C m (a ++ l) w w' ∧ w'.heap[C]? = some (.cells #[.int .i64 c'] 3 (0, 0)) ∧ c' + q = 2000
  | .over, e, w' => e = .returned (.bool false) ∧ ∃ (a : Tm.Trail) (c' : Nat), PairA p wb O C m (a ++ l) w w' ∧ w'.heap[C]? = some (.cells #[.int .i64 c'] 3 (0, 0)) ∧ 2000 < c' ∧ c' ≤ 5000
section
variable {p O : Nat → Prop} {wb C m : Nat} {l l' : Tm.Trail} {w w2 w6 w' : World}
theorem PairA.same (h : DO p wb O m l w) (hO : ¬ O C) (hp : ¬ p C) (T : Turned (fun k => k = C) w w') : PairA p wb O C m l w w' :=
  ⟨O, h.turned T (fun k hk e => ⟨fun o => hO (e ▸ o), fun o => hp (e ▸ o)⟩), fun _ h _ => h, T.mono (fun _ _ e => .inr e)⟩
theorem PairA.from {O2 : Nat → Prop} (T : Turned (fun k => O k ∨ k = C) w w2) (hO : ∀ k, O2 k → k < w.heap.size → O k) (h : PairA p wb O2 C m l w2 w') : PairA p wb O C m l w w' := by
  obtain ⟨O', a1, a2, a3⟩ := h; exact ⟨O', a1, fun k hk hl => hO k (a2 k hk (Nat.lt_of_lt_of_le hl T.size)) hl, T.step a3 (fun i hi e => e.elim (fun e => .inl (hO i e hi)) .inr)⟩
theorem PairQ.from {O2 : Nat → Prop} {r : Tm.UR} {e : Ending} {a : Tm.Trail} (hl : l' = a ++ l) (T : Turned (fun k => O k ∨ k = C) w w2) (hO : ∀ k, O2 k → k < w.heap.size → O k) (h : PairQ p wb O2 C m l' w2 r e w') : PairQ p wb O C m l w r e w' := by
  subst hl
  cases r with
  | ok l2 q => obtain ⟨h1, h2, h3⟩ := h; exact ⟨h1, h2.from T hO, h3⟩
  | no q => obtain ⟨h1, b, c, h2, h3⟩ := h; exact ⟨h1, b ++ a, c, by rw [List.append_assoc]; exact h2.from T hO, h3⟩
  | over => obtain ⟨h1, b, c, h2, h3⟩ := h; exact ⟨h1, b ++ a, c, by rw [List.append_assoc]; exact h2.from T hO, h3⟩
end
end Go.Proofs.Ytoihjobdfjajfaa
namespace Go.Proofs.Ytoihjobdfjajfaa
open Go.RowKit Go.Maps
def WkD (p : Nat → Prop) (X0 Y0 : Tm Unit) (N : Nat) (w2 : World) : List Value → World → Prop
  | [], W => Turned (fun _ => False) w2 W
  | [a], W => Turned (fun _ => False) w2 W ∧ ∃ X : LT, a = .agg #[.int .i64 X.kind, .int .i64 X.n, .string X.name, .slice X.at_.1 X.args.length X.at_.2] ∧ X.In p W ∧ X.bare = X0
  | [a, b], W => Turned (fun _ => False) w2 W ∧ (∃ X : LT, a = .agg #[.int .i64 X.kind, .int .i64 X.n, .string X.name, .slice X.at_.1 X.args.length X.at_.2] ∧ X.In p W ∧ X.bare = X0) ∧ ∃ Y : LT, b = .agg #[.int .i64 Y.kind, .int .i64 Y.n, .string Y.name, .slice Y.at_.1 Y.args.length Y.at_.2] ∧ Y.In p W ∧ Y.bare = Y0
  | [_, b, _], W => Turned (fun k => k = N) w2 W ∧ (∃ X : LT, W.heap[N]? = some (.cells #[.int .i64 X.kind, .int .i64 X.n, .string X.name, .slice X.at_.1 X.args.length X.at_.2] 41 (0, 0)) ∧ X.In p W ∧ X.bare = X0) ∧ ∃ Y : LT, b = .agg #[.int .i64 Y.kind, .int .i64 Y.n, .string Y.name, .slice Y.at_.1 Y.args.length Y.at_.2] ∧ Y.In p W ∧ Y.bare = Y0
  | [_, _, _, _], W => Turned (fun k => k = N ∨ k = N + 1) w2 W ∧ (∃ X : LT, W.heap[N]? = some (.cells #[.int .i64 X.kind, .int .i64 X.n, .string X.name, .slice X.at_.1 X.args.length X.at_.2] 41 (0, 0)) ∧ X.In p W ∧ X.bare = X0) ∧ ∃ Y : LT, W.heap[N + 1]? = some (.cells #[.int .i64 Y.kind, .int .i64 Y.n, .string Y.name, .slice Y.at_.1 Y.args.length Y.at_.2] 41 (0, 0)) ∧ Y.In p W ∧ Y.bare = Y0
  | _, _ => False
section
variable {p : Nat → Prop} {X0 Y0 : Tm Unit} {N : Nat} {w2 W W' : World}
theorem WkD.turned0 : ∀ (hs : List Value) (w w' : World), WkD p X0 Y0 N w2 hs w → Turned (fun _ => False) w w' → WkD p X0 Y0 N w2 hs w'
  | [], _, _, h, T => Turned.trans h T
  | [_], _, _, h, T => by obtain ⟨h1, X, x1, x2, x3⟩ := h; exact ⟨h1.trans T, X, x1, x2.turned0 T, x3⟩
  | [_, _], _, _, h, T => by obtain ⟨h1, ⟨X, x1, x2, x3⟩, Y, y1, y2, y3⟩ := h; exact ⟨h1.trans T, ⟨X, x1, x2.turned0 T, x3⟩, Y, y1, y2.turned0 T, y3⟩
  | [_, _, _], _, _, h, T => by obtain ⟨h1, ⟨X, x1, x2, x3⟩, Y, y1, y2, y3⟩ := h; exact ⟨h1.trans (T.mono (fun _ _ f => f.elim)), ⟨X, (T.block _ (Array.getElem?_eq_some_iff.1 x1).1 (fun f => f)).trans x1, x2.turned0 T, x3⟩, Y, y1, y2.turned0 T, y3⟩
  | [_, _, _, _], _, _, h, T => by obtain ⟨h1, ⟨X, x1, x2, x3⟩, Y, y1, y2, y3⟩ := h; exact ⟨h1.trans (T.mono (fun _ _ f => f.elim)), ⟨X, (T.block _ (Array.getElem?_eq_some_iff.1 x1).1 (fun f => f)).trans x1, x2.turned0 T, x3⟩, Y, (T.block _ (Array.getElem?_eq_some_iff.1 y1).1 (fun f => f)).trans y1, y2.turned0 T, y3⟩
  | _ :: _ :: _ :: _ :: _ :: _, _, _, h, _ => h.elim
theorem WkD.turned : ∀ (hs : List Value) (W : World), WkD p X0 Y0 N w2 hs W → Turned (fun k => k = N ∨ k = N + 1) w2 W
  | [], _, h => Turned.mono h (fun _ _ f => f.elim)
  | [_], _, h => h.1.mono (fun _ _ f => f.elim)
  | [_, _], _, h => h.1.mono (fun _ _ f => f.elim)
  | [_, _, _], _, h => h.1.mono (fun _ _ e => .inl e)
  | [_, _, _, _], _, h => h.1
  | _ :: _ :: _ :: _ :: _ :: _, _, h => h.elim
theorem WkD.early : ∀ (hs : List Value) (W : World), hs.length ≤ 2 → WkD p X0 Y0 N w2 hs W → Turned (fun _ => False) w2 W
  | [], _, _, h => h
  | [_], _, _, h => h.1
  | [_, _], _, _, h => h.1
end
end Go.Proofs.Ytoihjobdfjajfaa
namespace Go.Proofs.Ytoihjobdfjajfaa
open Go.RowKit Go.Maps
theorem PairA.after {p O : Nat → Prop} {wb m C : Nat} {l' : Tm.Trail} {w W w' : World} {o : Obj} (T : Turned (fun _ => False) w W) (hC : C = W.heap.size) (h : PairA p wb O C m l' (W.alloc o) w') : AfterD p wb O m l' w w' := by
  obtain ⟨O', a1, a2, a3⟩ := h; have T1 := T.alloc o; exact ⟨O', a1, fun k hk hl => a2 k hk (Nat.lt_of_lt_of_le hl T1.size), (T1.mono (fun _ _ f => f.elim) : Turned O w (W.alloc o)).step a3 (fun i hi e => e.elim id (fun e => by have := T.size; omega))⟩
end Go.Proofs.Ytoihjobdfjajfaa
namespace Go.Proofs.Ytoihjobdfjajfaa
open Go.RowKit Go.Maps
theorem Row.blocks {w : World} {e : TypeId} {size n : Nat} {v : Value} {xs : List Value} (h : Row w e size v n xs) : ∃ bx : List (Nat × Obj), (∀ b ∈ bx, v.ownBlock = some b.1 ∧ w.heap[b.1]? = some b.2) ∧ (∀ k, v.ownBlock = some k → ∃ b ∈ bx, b.1 = k) ∧ ∀ W : World, (∀ b ∈ bx, W.heap[b.1]? = some b.2) → Row W e size v n xs := by
  cases hv : v.ownBlock with
  | none => exact ⟨[], (fun b hb => by cases hb), (fun k hk => by cases hk), fun W _ => h.moved (fun g o hg => by rw [hv] at hg; cases hg)⟩
  | some g =>
    obtain ⟨o, ho⟩ : ∃ o, w.heap[g]? = some o := by
      rcases h.2 with ⟨rfl, _⟩ | ⟨g', cap, cur, rfl, hg, _⟩
      · cases hv
      · have : g' = g := by simpa [Value.ownBlock] using hv
        exact ⟨_, this ▸ hg⟩
    refine ⟨[(g, o)], fun b hb => ?_, fun k hk => ⟨(g, o), List.mem_singleton.2 rfl, Option.some.inj hk⟩, fun W hW => h.moved (fun g' o' hg' ho' => ?_)⟩
    · rw [List.mem_singleton.1 hb]; exact ⟨rfl, ho⟩
    · rw [hv] at hg'
      obtain rfl := Option.some.inj hg'; rw [ho] at ho'; obtain rfl := Option.some.inj ho'; exact hW (g, o) (List.mem_singleton.2 rfl)
theorem DO.kept {q D : Nat → Prop} {wb m : Nat} {l : Tm.Trail} {W : World} (h : DO q wb D m l W) :
    ∃ (bx : List (Nat × Obj)) (us : List LT), (∀ b ∈ bx, D b.1 ∧ W.heap[b.1]? = some b.2) ∧ (∀ u ∈ us, u.In q W) ∧
      ∀ (q' : Nat → Prop) (W' : World), (∀ b ∈ bx, W'.heap[b.1]? = some b.2) → (∀ u ∈ us, u.In q' W') → (∀ k, q' k → k < W'.heap.size ∧ ∀ b ∈ bx, b.1 ≠ k) → DO q' wb (fun k => ∃ b ∈ bx, b.1 = k) m l W' := by
  obtain ⟨tv, iv, rv, us, is, tr, B, R, hO⟩ := h.db; obtain ⟨b1, r1, s1, k1⟩ := B.row.blocks; obtain ⟨b2, r2, s2, k2⟩ := B.bools.blocks; obtain ⟨b3, r3, s3, k3⟩ := B.trail.blocks
  have hown : ∀ b ∈ (wb, Obj.cells #[tv, iv, rv] 113 (0, 0)) :: (b1 ++ (b2 ++ b3)), ownD wb tv iv rv b.1 ∧ W.heap[b.1]? = some b.2 := by
    intro b hb
    rcases List.mem_cons.1 hb with rfl | hb
    · exact ⟨.inl rfl, B.b⟩
    · rcases List.mem_append.1 hb with hb | hb
      · exact ⟨.inr (.inl (r1 b hb).1), (r1 b hb).2⟩
      · rcases List.mem_append.1 hb with hb | hb
        · exact ⟨.inr (.inr (.inl (r2 b hb).1)), (r2 b hb).2⟩
        · exact ⟨.inr (.inr (.inr (r3 b hb).1)), (r3 b hb).2⟩
  have hall : ∀ k, ownD wb tv iv rv k → ∃ b ∈ (wb, Obj.cells #[tv, iv, rv] 113 (0, 0)) :: (b1 ++ (b2 ++ b3)), b.1 = k := by
    rintro k (rfl | hk | hk | hk)
    · exact ⟨_, List.mem_cons_self .., rfl⟩
    · obtain ⟨b, hb, e⟩ := s1 k hk
      exact ⟨b, List.mem_cons_of_mem _ (List.mem_append_left _ hb), e⟩
    · obtain ⟨b, hb, e⟩ := s2 k hk
      exact ⟨b, List.mem_cons_of_mem _ (List.mem_append_right _ (List.mem_append_left _ hb)), e⟩
    · obtain ⟨b, hb, e⟩ := s3 k hk
      exact ⟨b, List.mem_cons_of_mem _ (List.mem_append_right _ (List.mem_append_right _ hb)), e⟩
  refine ⟨_, us, fun b hb => ⟨hO _ (hown b hb).1, (hown b hb).2⟩, (LT.ins_iff _).1 B.ins, fun q' W' hb hu hq => ?_⟩; refine ⟨⟨tv, iv, rv, us, is, tr, ⟨hb _ (List.mem_cons_self ..), k1 W' (fun b h => hb b (List.mem_cons_of_mem _ (List.mem_append_left _ h))), k2 W' (fun b h => hb b (List.mem_cons_of_mem _ (List.mem_append_right _ (List.mem_append_left _ h)))), k3 W' (fun b h => hb b (List.mem_cons_of_mem _ (List.mem_append_right _ (List.mem_append_right _ h)))), B.same, (LT.ins_iff _).2 hu, B.most, B.ne, fun k hk => ⟨(hq k hk).1, fun c => ?_⟩⟩, R, hall⟩, fun k hk => ?_, fun k hk => ?_⟩
  · obtain ⟨b, h1, h2⟩ := hall k c
    exact (hq k hk).2 b h1 h2
  · obtain ⟨b, h1, rfl⟩ := hk
    exact (Array.getElem?_eq_some_iff.1 (hb b h1)).1
  · rintro ⟨b, h1, h2⟩
    exact (hq k hk).2 b h1 h2
def CM (N bb wb m mw : Nat) (tr lw : Tm.Trail) (bx : List (Nat × Obj)) (ts : List LT) (w1 W : World) : Prop :=
  ∃ (q : Nat → Prop) (tl : TL) (O D : Nat → Prop), (∀ k, k < N → q k) ∧ bt tl = tr ∧ BD2 q bb wb O D m mw tl lw W ∧ (∀ k, O k → N ≤ k) ∧ (∀ k, D k → N ≤ k) ∧ Turned (fun _ => False) w1 W ∧ (∀ b ∈ bx, W.heap[b.1]? = some b.2 ∧ ¬ O b.1 ∧ ¬ D b.1 ∧ ¬ q b.1) ∧ ∀ x ∈ ts, x.In q W
section
variable {N bb wb m mw m' : Nat} {tr lw tr' lw' : Tm.Trail} {bx bx' : List (Nat × Obj)} {ts ts' : List LT} {w1 w0 W W' : World} {x y t : LT}
theorem CM.turned0 (h : CM N bb wb m mw tr lw bx ts w1 W) (T : Turned (fun _ => False) W W') : CM N bb wb m mw tr lw bx ts w1 W' := by
  obtain ⟨q, tl, O, D, h1, h2, h3, h4, h5, h6, h7, h8⟩ := h; exact ⟨q, tl, O, D, h1, h2, h3.turned0 T, h4, h5, h6.trans T, fun b hb => ⟨(T.block _ (Array.getElem?_eq_some_iff.1 (h7 b hb).1).1 (fun f => f)).trans (h7 b hb).1, (h7 b hb).2⟩, fun x hx => (h8 x hx).turned0 T⟩
theorem CM.old (h : CM N bb wb m mw tr lw bx ts w1 W) : Turned (fun _ => False) w1 W := by obtain ⟨q, tl, O, D, h1, h2, h3, h4, h5, h6, h7, h8⟩ := h; exact h6
theorem CM.ok (h : CM N bb wb m mw tr lw bx ts w1 W) : Tm.okT m tr := by obtain ⟨q, tl, O, D, h1, rfl, h3, _⟩ := h; exact h3.b.ok
theorem CM.boxes (h : CM N bb wb m mw tr lw bx ts w1 W) : ∀ b ∈ bx, W.heap[b.1]? = some b.2 := by obtain ⟨q, tl, O, D, h1, h2, h3, h4, h5, h6, h7, h8⟩ := h; exact fun b hb => (h7 b hb).1
theorem CM.terms (h : CM N bb wb m mw tr lw bx ts w1 W) : ∀ x ∈ ts, x.In (fun _ => True) W := by obtain ⟨q, tl, O, D, h1, h2, h3, h4, h5, h6, h7, h8⟩ := h; exact fun x hx => (h8 x hx).mono (fun _ _ _ => trivial)
theorem CM.sub (h : CM N bb wb m mw tr lw bx ts w1 W) (hb : ∀ b ∈ bx', b ∈ bx) (ht : ∀ x ∈ ts', x ∈ ts) : CM N bb wb m mw tr lw bx' ts' w1 W := by
  obtain ⟨q, tl, O, D, h1, h2, h3, h4, h5, h6, h7, h8⟩ := h; exact ⟨q, tl, O, D, h1, h2, h3, h4, h5, h6, fun b hb' => h7 b (hb b hb'), fun x hx => h8 x (ht x hx)⟩
theorem CM.box (h : CM N bb wb m mw tr lw bx ts w1 W) (o : Obj) : CM N bb wb m mw tr lw ((W.heap.size, o) :: bx) ts w1 (W.alloc o) := by
  have T := (Turned.refl (fun _ => False) W).alloc o; obtain ⟨q, tl, O, D, h1, h2, h3, h4, h5, h6, h7, h8⟩ := h; refine ⟨q, tl, O, D, h1, h2, h3.turned0 T, h4, h5, h6.trans T, fun b hb => ?_, fun x hx => (h8 x hx).turned0 T⟩
  rcases List.mem_cons.1 hb with rfl | hb
  · exact ⟨heap_alloc_new W o, fun c => Nat.lt_irrefl _ (h3.b.lt _ c), fun c => Nat.lt_irrefl _ (h3.d.lt _ c), fun c => Nat.lt_irrefl _ (h3.b.plt _ c)⟩
  · exact ⟨(T.block _ (Array.getElem?_eq_some_iff.1 (h7 b hb).1).1 (fun f => f)).trans (h7 b hb).1, (h7 b hb).2⟩
theorem CM.keepBox (h : CM N bb wb m mw tr lw bx ts w1 w0) (T : Turned (fun _ => False) w0 W) {g : Nat} {o : Obj} (hg : w0.heap.size ≤ g) (ho : W.heap[g]? = some o) : CM N bb wb m mw tr lw ((g, o) :: bx) ts w1 W := by
  obtain ⟨q, tl, O, D, h1, h2, h3, h4, h5, h6, h7, h8⟩ := h; refine ⟨q, tl, O, D, h1, h2, h3.turned0 T, h4, h5, h6.trans T, fun b hb => ?_, fun x hx => (h8 x hx).turned0 T⟩
  rcases List.mem_cons.1 hb with rfl | hb
  · exact ⟨ho, fun c => by have := h3.b.lt _ c; simp only [] at this; omega, fun c => by have := h3.d.lt _ c; simp only [] at this; omega, fun c => by have := h3.b.plt _ c; simp only [] at this; omega⟩
  · exact ⟨(T.block _ (Array.getElem?_eq_some_iff.1 (h7 b hb).1).1 (fun f => f)).trans (h7 b hb).1, (h7 b hb).2⟩
theorem CM.row {e : TypeId} {size n : Nat} {v : Value} {xs : List Value} (h : CM N bb wb m mw tr lw bx ts w1 w0) (T : Turned (fun _ => False) w0 W) (hr : Row W e size v n xs) (hn : ∀ k, v.ownBlock = some k → w0.heap.size ≤ k) :
    ∃ bx', CM N bb wb m mw tr lw (bx' ++ bx) ts w1 W ∧ ∀ W', (∀ b ∈ bx' ++ bx, W'.heap[b.1]? = some b.2) → Row W' e size v n xs := by
  cases hv : v.ownBlock with
  | none => exact ⟨[], h.turned0 T, fun W' _ => hr.moved (fun g o hg => by rw [hv] at hg; cases hg)⟩
  | some g =>
    obtain ⟨o, ho⟩ : ∃ o, W.heap[g]? = some o := by
      rcases hr.2 with ⟨rfl, _⟩ | ⟨g', cap, cur, rfl, hg, _⟩
      · cases hv
      · have : g' = g := by simpa [Value.ownBlock] using hv
        exact ⟨_, this ▸ hg⟩
    refine ⟨[(g, o)], h.keepBox T (hn g hv) ho, fun W' hW => hr.moved (fun g' o' hg' ho' => ?_)⟩; rw [hv] at hg'; obtain rfl := Option.some.inj hg'; rw [ho] at ho'; obtain rfl := Option.some.inj ho'; exact hW (g, o) (List.mem_cons_self ..)
theorem CM.keep (h : CM N bb wb m mw tr lw bx ts w1 w0) (T : Turned (fun _ => False) w0 W) (hx : x.In (fun k => k < N ∨ w0.heap.size ≤ k) W) : CM N bb wb m mw tr lw bx (x :: ts) w1 W := by
  obtain ⟨q, tl, O, D, h1, h2, h3, h4, h5, h6, h7, h8⟩ := h; refine ⟨fun k => q k ∨ (w0.heap.size ≤ k ∧ k < W.heap.size), tl, O, D, fun k hk => .inl (h1 k hk), h2, h3.grown T, h4, h5, h6.trans T, fun b hb => ?_, fun y hy => ?_⟩
  · have hlt := (Array.getElem?_eq_some_iff.1 (h7 b hb).1).1
    exact ⟨(T.block _ hlt (fun f => f)).trans (h7 b hb).1, (h7 b hb).2.1, (h7 b hb).2.2.1, fun c => c.elim (h7 b hb).2.2.2 (fun c => by omega)⟩
  · rcases List.mem_cons.1 hy with rfl | hy
    · exact hx.mono (fun k hk h => h.elim (fun h => .inl (h1 k h)) (fun h => .inr ⟨h, hk⟩))
    · exact ((h8 y hy).turned0 T).mono (fun _ _ h => .inl h)
theorem CM.stepB {q O D : Nat → Prop} {l l' : TL} (hN : N = w1.heap.size) (h1 : ∀ k, k < N → q k) (b1 : BD2 q bb wb O D m mw l lw W) (b2 : ∀ k, O k → N ≤ k) (b3 : ∀ k, D k → N ≤ k) (b4 : Turned (fun _ => False) w1 W) (b5 : ∀ b ∈ bx, W.heap[b.1]? = some b.2 ∧ ¬ O b.1 ∧ ¬ D b.1 ∧ ¬ q b.1) (b6 : ∀ x ∈ ts, x.In q W) (hl : bt l' = tr') (ha : After q bb O m' l' W W') : CM N bb wb m' mw tr' lw bx ts w1 W' := by
  obtain ⟨O', a1, a2, a3⟩ := b1.stepB ha; refine ⟨q, l', O', D, h1, hl, a1, fun k hk => ?_, b3, b4.step a3 (fun i hi e => by have := b2 i e; omega), fun b hb => ?_, fun x hx => LT.In.turned a3 (fun k hk hq e => b1.b.sep k hq e) (fun _ _ q => q) _ (b6 x hx)⟩
  · rcases Nat.lt_or_ge k W.heap.size with h | h
    · exact b2 k (a2 k hk h)
    · have := b4.size; omega
  · obtain ⟨c1, c2, c3⟩ := b5 b hb
    have hlt := (Array.getElem?_eq_some_iff.1 c1).1; exact ⟨(a3.block _ hlt c2).trans c1, fun e => c2 (a2 _ e hlt), c3⟩
theorem CM.fresh (hN : N = w1.heap.size) (h : CM N bb wb m mw tr lw bx ts w1 W) (hm : m < 65536) :
    Calls Try.prog 87 #[.pointer (some ⟨bb, 0, none⟩)] W fun e w' => e = .returned (.tuple #[.agg #[.int .i64 0, .int .i64 (m : Int), .string ByteArray.empty, .slice none 0 0], .bool true]) ∧ CM N bb wb (m + 1) mw tr lw bx ts w1 w' := by
  obtain ⟨q, tl, O, D, h1, rfl, h3, h4, h5, h6, h7, h8⟩ := h; refine (freshO87 h3.b hm).mono ?_
  rintro e w' ⟨rfl, ha⟩
  exact ⟨rfl, CM.stepB hN h1 h3 h4 h5 h6 h7 h8 rfl ha⟩
theorem CM.binds (h : CM N bb wb m mw tr lw bx ts w1 W) : ∃ bxD us, BM N bb (bxD ++ bx) (us ++ ts) w1 m tr W ∧ ∀ (W' : World) (m' : Nat) (tr' : Tm.Trail) (ts' : List LT) (bx' : List (Nat × Obj)), BM N bb bx' (us ++ ts') w1 m' tr' W' → (∀ b ∈ bxD, b ∈ bx') → CM N bb wb m' mw tr' lw [] ts' w1 W' := by
  obtain ⟨q, tl, O, D, h1, rfl, h3, h4, h5, h6, h7, h8⟩ := h; obtain ⟨bxD, us, d1, d2, d3⟩ := h3.d.kept; refine ⟨bxD, us, ⟨q, tl, O, h1, rfl, h3.b, h4, h6, fun b hb => ?_, fun x hx => ?_⟩, fun W' m' tr' ts' bx' hB hsub => ?_⟩
  · rcases List.mem_append.1 hb with hb | hb
    · obtain ⟨e1, e2⟩ := d1 b hb
      exact ⟨e2, fun c => h3.dis _ c e1, fun c => h3.d.sep _ c e1⟩
    · obtain ⟨e1, e2, e3, e4⟩ := h7 b hb
      exact ⟨e1, e2, e4⟩
  · rcases List.mem_append.1 hx with hx | hx
    · exact d2 x hx
    · exact h8 x hx
  · obtain ⟨q', l', O', g1, g2, g3, g4, g5, g6, g7⟩ := hB
    refine ⟨q', l', O', _, g1, g2, ⟨g3, d3 q' W' (fun b hb => (g6 b (hsub b hb)).1) (fun u hu => g7 u (List.mem_append_left _ hu)) (fun k hk => ⟨g3.plt k hk, fun b hb e => (g6 b (hsub b hb)).2.2 (e ▸ hk)⟩), fun k hk c => ?_⟩, g4, fun k hk => ?_, g5, (fun b hb => by cases hb), fun x hx => g7 x (List.mem_append_right _ hx)⟩
    · obtain ⟨b, hb, rfl⟩ := c
      exact (g6 b (hsub b hb)).2.1 hk
    · obtain ⟨b, hb, rfl⟩ := hk
      exact h5 _ (d1 b hb).1
theorem CM.whole {E : Int} (h : CM N bb wb m mw tr lw bx ts w1 W) (hx : x ∈ ts) (hs : slim x) (hE : wholeE m tr x.bare = E) :
    Calls Try.prog 89 #[.pointer (some ⟨bb, 0, none⟩), .agg #[.int .i64 x.kind, .int .i64 x.n, .string x.name, .slice x.at_.1 x.args.length x.at_.2]] W fun e w' => ∃ u : LT, e = .returned (.tuple #[.agg #[.int .i64 u.kind, .int .i64 u.n, .string u.name, .slice u.at_.1 u.args.length u.at_.2], .int .i64 E]) ∧ u.bare = wholeT m tr x.bare ∧ u.In (fun _ => True) w' ∧ slim u ∧ Turned (fun _ => False) W w' := by
  obtain ⟨q, tl, O, D, h1, rfl, h3, h4, h5, h6, h7, h8⟩ := h; refine (wholeVal h3.b (h8 x hx) hs hE).mono ?_
  rintro e w' ⟨u, rfl, hu, hi, T⟩
  exact ⟨u, rfl, hu, hi.mono (fun _ _ _ => trivial), wholeSlim h3.b.ok hu, T⟩
end
end Go.Proofs.Ytoihjobdfjajfaa
namespace Go.Proofs.Ytoihjobdfjajfaa
open Go
def Looks7 (pre : List Tmp) (G : Tmp → Value → World → Prop) (ops : Array Oper) (a0 a : Act) (w : World) (s : Tmp) : Prop :=
  if s ∈ ops.toList.filterMap (·.dst) ∧ s ∉ pre then G s (a.tmps.getD s undef) w else a.tmps.getD s undef = a0.tmps.getD s undef
def StepG7 (pre : List Tmp) (P : Program) (G : Tmp → Value → World → Prop) (ops : Array Oper) (a0 : Act) (Pre : World → Prop) (Post : Value → World → World → Prop) (o : Oper) : Prop :=
  ∀ a w, Pre w → (∀ s ∈ o.looksAt ops, Looks7 pre G ops a0 a w s) →
    (Region.wanted o (yielded ops a.tmps) = true → Brings P (fun v w' => Post v w w') ((execOp a.eval o).run P w)) ∧
    (Region.wanted o (yielded ops a.tmps) = false → Post undef w w)
def StepK7 (pre : List Tmp) (P : Program) (hist : List (Tmp × Nat)) (GL : Tmp → Value → Prop) (ops : Array Oper) (a0 : Act) (st : List Nat) (R : List (Nat × Value) → World → Prop) (i : Nat) (o : Oper) : Prop :=
  match st.contains i with
  | false => ∀ hs, (∀ j n v, waits ops n j i = true → (j, v) ∉ hs) → StepG7 pre P (fun d v _ => GK hist GL hs d v) ops a0 (R hs) (fun v w w' => Turned (fun _ => False) w w' ∧ GDL GL o.dst v) o
  | true => ∀ hs, (∀ v, (i, v) ∉ hs) → (∀ j n v, waits ops n j i = true → (j, v) ∉ hs) → StepG7 pre P (fun d v _ => GK hist GL hs d v) ops a0 (R hs) (fun v _ w' => R (hs ++ [(i, v)]) w') o
def StepsK7 (pre : List Tmp) (P : Program) (hist : List (Tmp × Nat)) (GL : Tmp → Value → Prop) (ops : Array Oper) (a0 : Act) (st : List Nat) (R : List (Nat × Value) → World → Prop) : Nat → List Oper → Prop
  | _, [] => True
  | i, o :: l => StepK7 pre P hist GL ops a0 st R i o ∧ StepsK7 pre P hist GL ops a0 st R (i + 1) l
theorem StepsK7.at {pre : List Tmp} {P : Program} {hist : List (Tmp × Nat)} {GL : Tmp → Value → Prop} {ops : Array Oper} {a0 : Act} {st : List Nat} {R : List (Nat × Value) → World → Prop} {l : List Oper} {b : Nat} (h : StepsK7 pre P hist GL ops a0 st R b l) {j : Nat} {o : Oper} (ho : l[j]? = some o) : StepK7 pre P hist GL ops a0 st R (b + j) o := by
  induction l generalizing b j with
  | nil => simp at ho
  | cons x l ih =>
    cases j with
    | zero => simp at ho; subst ho; exact h.1
    | succ j =>
      simp at ho; have := ih h.2 ho
      rwa [show b + 1 + j = b + (j + 1) from by omega] at this
end Go.Proofs.Ytoihjobdfjajfaa
namespace Go.Proofs.Ytoihjobdfjajfaa
open Go.RowKit Go.Maps
def agLT (o : LT) : Value := .agg #[.int .i64 o.kind, .int .i64 o.n, .string o.name, .slice o.at_.1 o.args.length o.at_.2]
structure TwoR (X Y : Value) (nx ny : Nat) (xc yc : List Value) (t u : LT) (w0 : World) (hs : Hist) (W : World) : Prop where
  td : Turned (fun k => X.ownBlock = some k ∨ Y.ownBlock = some k) w0 W
  made : ∀ v, (2, v) ∈ hs → ∃ o : LT, v = agLT o ∧ o.bare = t.bare ∧ o.In (fun k => w0.heap.size ≤ k ∧ (∀ x, (4, x) ∈ hs → x.ownBlock ≠ some k) ∧ ∀ x, (8, x) ∈ hs → x.ownBlock ≠ some k) W
  old : (∀ v, (4, v) ∉ hs) → Row W 41 4 X nx xc
  one : ∀ v, (3, v) ∈ hs → (∀ x, (4, x) ∉ hs) → ∃ (S : Nat) (o : LT), (2, agLT o) ∈ hs ∧ v = .slice (some ⟨S, 0, none⟩) 1 1 ∧ w0.heap.size ≤ S ∧ W.heap[S]? = some (.cells o.cells.toArray 41 (0, 0))
  new : ∀ v, (4, v) ∈ hs → ∃ (g cap : Nat) (o : LT), (2, agLT o) ∈ hs ∧ v = .slice (some ⟨g, 0, none⟩) (nx + 1) cap ∧ Row W 41 4 v (nx + 1) (xc ++ o.cells) ∧ (some g = X.ownBlock ∨ w0.heap.size ≤ g)
  cy : Chain 41 4 Y ny yc u.cells 7 8 w0 hs W
  ne : ∀ v v', (4, v) ∈ hs → (8, v') ∈ hs → ∀ k, v.ownBlock = some k → v'.ownBlock ≠ some k
  a9 : ∀ v, (9, v) ∈ hs → (4, v) ∈ hs
  a10 : ∀ v, (10, v) ∈ hs → (8, v) ∈ hs
theorem snoc_ne {a q : Nat} {v x : Value} {hs : Hist} (ha : a ≠ q) (hm : (a, v) ∈ hs ++ [(q, x)]) : (a, v) ∈ hs := by
  rcases mem_snoc hm with hm | ⟨c, _⟩
  · exact hm
  · exact absurd c ha
theorem snoc_l {a q : Nat} {v x : Value} {hs : Hist} (h : (a, v) ∈ hs) : (a, v) ∈ hs ++ [(q, x)] := List.mem_append_left _ h
section
variable {X Y : Value} {nx ny : Nat} {xc yc : List Value} {t u : LT} {w0 W W' : World} {hs : Hist}
theorem TwoR.start (hX : Row w0 41 4 X nx xc) (hY : Row w0 41 4 Y ny yc) (T : Turned (fun _ => False) w0 W) : TwoR X Y nx ny xc yc t u w0 [] W :=
  ⟨T.mono (fun _ _ f => f.elim), fun v h => (List.not_mem_nil h).elim, fun _ => hX.turned0 T, fun v h => (List.not_mem_nil h).elim, fun v h => (List.not_mem_nil h).elim, Chain.start hY T, fun v v' h => (List.not_mem_nil h).elim, fun v h => (List.not_mem_nil h).elim, fun v h => (List.not_mem_nil h).elim⟩
theorem TwoR.turned0 (h : TwoR X Y nx ny xc yc t u w0 hs W) (T : Turned (fun _ => False) W W') : TwoR X Y nx ny xc yc t u w0 hs W' := by
  refine ⟨h.td.trans (T.mono (fun _ _ f => f.elim)), fun v hv => ?_, fun hn => (h.old hn).turned0 T, fun v hv hn => ?_, fun v hv => ?_, h.cy.turned0 T, h.ne, h.a9, h.a10⟩
  · obtain ⟨o, e1, e2, e3⟩ := h.made v hv
    exact ⟨o, e1, e2, e3.turned0 T⟩
  · obtain ⟨S, o, e1, e2, e3, e4⟩ := h.one v hv hn
    exact ⟨S, o, e1, e2, e3, (T.block S (Array.getElem?_eq_some_iff.1 e4).1 (fun f => f)).trans e4⟩
  · obtain ⟨g, cap, o, e1, e2, e3, e4⟩ := h.new v hv
    exact ⟨g, cap, o, e1, e2, e3.turned0 T, e4⟩
theorem TwoR.yblk (h : TwoR X Y nx ny xc yc t u w0 hs W) {v : Value} (hv : (8, v) ∈ hs) : ∀ k, v.ownBlock = some k → k < W.heap.size := by
  obtain ⟨g, cap, e1, e2, _⟩ := h.cy.new v hv
  exact fun k hk => e2.lt k hk
theorem TwoR.own {o : LT} (h : TwoR X Y nx ny xc yc t u w0 hs W) (n3 : ∀ v, (3, v) ∉ hs) (n4 : ∀ v, (4, v) ∉ hs) (n2 : ∀ v, (2, v) ∉ hs) (T : Turned (fun _ => False) W W') (hb : o.bare = t.bare) (hi : o.In (fun k => W.heap.size ≤ k) W') : TwoR X Y nx ny xc yc t u w0 (hs ++ [(2, agLT o)]) W' := by
  have hsz := h.td.size
  have h8 := fun v (hv : (8, v) ∈ hs) => h.yblk hv
  have h' := h.turned0 T; refine ⟨h'.td, fun v hv => ?_, fun hn => h'.old n4, fun v hv hn => absurd (snoc_ne (by decide) hv) (n3 v), fun v hv => absurd (snoc_ne (by decide) hv) (n4 v), h'.cy.other (by decide) (by decide), fun v v' hv => absurd (snoc_ne (by decide) hv) (n4 v), fun v hv => snoc_l (h'.a9 v (snoc_ne (by decide) hv)), fun v hv => snoc_l (h'.a10 v (snoc_ne (by decide) hv))⟩
  rcases mem_snoc hv with hv | ⟨_, rfl⟩
  · exact absurd hv (n2 v)
  · refine ⟨o, rfl, hb, hi.mono (fun k _ hk => ⟨by omega, fun x hx => absurd (snoc_ne (by decide) hx) (n4 x), fun x hx c => ?_⟩)⟩
    have := h8 x (snoc_ne (by decide) hx) k c; omega
theorem TwoR.done {v v' : Value} (h : TwoR X Y nx ny xc yc t u w0 hs W) (h9 : (9, v) ∈ hs) (h10 : (10, v') ∈ hs) (huniq : ∀ i v v', (i, v) ∈ hs → (i, v') ∈ hs → v = v') :
    ∃ (g cap g' cap' : Nat) (o : LT), v = .slice (some ⟨g, 0, none⟩) (nx + 1) cap ∧ v' = .slice (some ⟨g', 0, none⟩) (ny + 1) cap' ∧ g ≠ g' ∧ o.bare = t.bare ∧ o.In (fun k => w0.heap.size ≤ k ∧ k ≠ g ∧ k ≠ g') W ∧ Row W 41 4 (.slice (some ⟨g, 0, none⟩) (nx + 1) cap) (nx + 1) (xc ++ o.cells) ∧ Row W 41 4 (.slice (some ⟨g', 0, none⟩) (ny + 1) cap') (ny + 1) (yc ++ u.cells) ∧ (some g = X.ownBlock ∨ w0.heap.size ≤ g) ∧ (some g' = Y.ownBlock ∨ w0.heap.size ≤ g') ∧ Turned (fun k => X.ownBlock = some k ∨ Y.ownBlock = some k) w0 W := by
  have h4 := h.a9 v h9; have h8 := h.a10 v' h10; obtain ⟨g, cap, o, e0, e1, e2, e3⟩ := h.new v h4; obtain ⟨g', cap', f1, f2, f3⟩ := h.cy.new v' h8; obtain ⟨q, q1, q2, q3⟩ := h.made _ e0; subst e1 f1
  have hc : o.cells = q.cells := by
    unfold agLT at q1
    injection q1 with q1
    rw [LT.cells_eq, LT.cells_eq]; exact congrArg Array.toList q1
  rw [hc] at e2; have hq := q3.mono (q := fun k => w0.heap.size ≤ k ∧ k ≠ g ∧ k ≠ g') (fun k _ hk => ⟨hk.1, fun c => hk.2.1 _ h4 (by rw [c]; rfl), fun c => hk.2.2 _ h8 (by rw [c]; rfl)⟩); refine ⟨g, cap, g', cap', q, rfl, rfl, fun c => h.ne _ _ h4 h8 g rfl (by rw [c]; rfl), q2, hq, e2, f2, e3, f3, h.td⟩
end
end Go.Proofs.Ytoihjobdfjajfaa
namespace Go.Proofs.Ytoihjobdfjajfaa
open Lib (hid)
open Go.RowKit
set_option maxRecDepth 100000 in
set_option maxHeartbeats 3200000 in
theorem own96 {p : Nat → Prop} (n : Nat) : ∀ (t : LT) (w : World), t.depth ≤ n → t.In p w → slim t →
    Calls Try.prog 96 #[t.val] w fun e w' => ∃ u : LT, e = .returned u.val ∧ u.bare = t.bare ∧ u.In (fun k => w.heap.size ≤ k) w' ∧ Turned (fun _ => False) w w' := by
  induction n with
  | zero => intro t w h; have := Tm.depth_pos t; omega
  | succ n ih =>
    intro t w hd ht hsl; obtain ⟨i0, hi0, hz0, hz1, hz2⟩ := info_parts infoR; have hl12 : t.args.length ≤ 12 := hsl t (by rw [Tm.flat_eq]; exact List.mem_cons_self ..)
    have hcall : ∀ x : LT, x ∈ t.args → ∀ W, x.In p W → Calls Try.prog 96 #[x.val] W fun e w' => ∃ u : LT, e = .returned u.val ∧ u.bare = x.bare ∧ u.In (fun k => W.heap.size ≤ k) w' ∧ Turned (fun _ => False) W w' := fun x hx W hW => ih x W (by have := arg_depth hx; omega) hW (fun y hy => hsl y (by rw [Tm.flat_eq]; exact List.mem_cons_of_mem _ (mem_flats_arg hx hy)))
    have HC := hid hcall; have HIN := hid ht
    have hL := fun W h => (LT.In.lies (p := p) (w := W) (t := t) h)
    rw [LT.val_eq]; obtain ⟨ad, had⟩ : ∃ z, z = t.at_.1 := ⟨_, rfl⟩; obtain ⟨cd, hcd⟩ : ∃ z, z = t.at_.2 := ⟨_, rfl⟩; rw [← had] at hL; rw [← had, ← hcd]; have HL := hid hL; have H3 := hid (three w (.cells #[.int .i64 t.kind, .int .i64 t.n, .string t.name, .slice ad t.args.length cd] 27) (.cells #[.int .i64 0, .int .i64 0, .string ⟨#[]⟩, .slice none 0 0] 41) (.cells #[.int .i64 t.kind, .int .i64 t.n, .string t.name, .slice none 0 0] 41)); clear ih hd hsl hcall ht hL had hcd; go_enter Try.func96, Try.ntmps96
    go_wp2_with fail
    revert H3; generalize (((w.alloc (.cells #[.int .i64 t.kind, .int .i64 t.n, .string t.name, .slice ad t.args.length cd] 27)).alloc (.cells #[.int .i64 0, .int .i64 0, .string ⟨#[]⟩, .slice none 0 0] 41)).alloc (.cells #[.int .i64 t.kind, .int .i64 t.n, .string t.name, .slice none 0 0] 41)) = w1; intro H3; obtain ⟨B0, hB0⟩ : ∃ z, z = w.heap.size := ⟨_, rfl⟩; obtain ⟨B1, hB1⟩ : ∃ z, z = w.heap.size + 1 := ⟨_, rfl⟩; obtain ⟨B2, hB2⟩ : ∃ z, z = w.heap.size + 2 := ⟨_, rfl⟩; obtain ⟨N, hN⟩ : ∃ z, z = w.heap.size + 3 := ⟨_, rfl⟩; rw [← hB1, ← hB2, ← hN, ← hB0] at H3; have HE := hid (And.intro hB0 (And.intro hB1 (And.intro hB2 hN)))
    try rw [← hB2]
    try rw [← hB1]
    try rw [← hB0]
    clear hB0 hB1 hB2 hN; have hinit : Hid (OwnI N B2 t w1 0 [] none 0 w1) := ⟨rfl, H3.out.2.2.2.1, Row.nil _ _ _, trivial, fun b h => by simp [Value.ownBlock] at h, Turned.refl _ _⟩
    go_loopg [4] t.args.length (fun g i wr => ∃ j : Nat, Hid (j + g = t.args.length) ∧ j ≤ t.args.length ∧ i = .int .i64 j ∧ ∃ us a c, Hid (OwnI N B2 t w1 j us a c wr))
    case atStart => exact ⟨0, Nat.zero_add _, Nat.zero_le _, rfl, [], none, 0, hinit⟩
    case round =>
      obtain ⟨j, HG, hj, rfl, us, a, c, HOI⟩ := hrel; have HTw : Hid (Turned (fun _ => False) w wr) := H3.out.1.step HOI.out.turned (fun i hi e => by have := HE.out; omega); have hb0 := (HOI.out.turned.block B0 (Array.getElem?_eq_some_iff.1 H3.out.2.2.1).1 (fun e => by have := HE.out; omega)).trans H3.out.2.2.1; obtain ⟨_, _, _, k3, _⟩ := cells4 hb0
      have hlen' : us.length = j := by have := congrArg List.length HOI.out.bares; rw [Tm.bares_length, Tm.bares_length, List.length_take] at this; omega
      have HUL := hid hlen'; clear hb0 hlen'
      by_cases hjl : j < t.args.length
      · have hx : t.args[j]? = some t.args[j] := List.getElem?_eq_getElem hjl
        obtain ⟨x, hxe⟩ : ∃ x : LT, x = t.args[j] := ⟨_, rfl⟩; rw [← hxe] at hx; clear hxe; have tin := HIN.out.turned0 HTw.out; have xin := (LT.ins_iff _).1 tin.args x (List.mem_of_getElem? hx); obtain ⟨b, o, rfl, _, c0, c1, c2, c3⟩ := (HL.out _ tin).cell hx
        have hcx := fun W (h : Turned (fun _ => False) wr W) => HC.out x (List.mem_of_getElem? hx) W (xin.turned0 h)
        rw [LT.val_eq x] at hcx; have HCX := hid hcx; have HX := hid hx; have HBN : Hid (B2 < N ∧ N ≤ wr.heap.size ∧ w1.heap.size ≤ N) := ⟨by have := HE.out; omega, by have := HOI.out.turned.size; have := H3.out.2.1; omega, by have := H3.out.2.1; omega⟩; clear hx hcx xin tin
        go_wp2_with fail
        · skip
          refine wp_region_hs [19, 20, 21, 22, 23, 24, 25, 26, 27, 28, 29] [7, 8, 9, 11] [4, 2, 0, 0, 0, 0, 0, 4, 4, 4, 4, 4] [26, 27, 28, 100011] (fun d v => (match d with | 19 => v = .pointer (some ⟨B2, 3, none⟩) | 20 => v = .slice a j c | 21 => v = .pointer (some ⟨B0, 3, none⟩) | 22 => v = .slice (some ⟨b, o, none⟩) t.args.length cd | 23 => v = .int .i64 (j : Int) | 24 => v = .pointer (some ⟨b, o + j * 4, none⟩) | 25 => v = .agg #[.int .i64 x.kind, .int .i64 x.n, .string x.name, .slice x.at_.1 x.args.length x.at_.2] | 29 => v = .pointer (some ⟨B2, 3, none⟩) | _ => True : Prop)) (OwnS N B2 t x w1 j us a c wr) (by kernel_rfl) rfl (by kernel_rfl) (by kernel_rfl) (by kernel_rfl) (by kernel_rfl) (fun _ h => h) (fun hs w w' h ht => OwnS.turned0 hs w w' h ht) ?hs ?hQ
          case hs =>
            refine ⟨?s0, ?s1, ?s2, ?s3, ?s4, ?s5, ?s6, ?s7, ?s8, ?s9, ?s10, ?s11, trivial⟩
            case s0 =>
              refine fun hs hle => stepG_free [] [3] (by kernel_rfl) rfl ?_
              · intro ac W hT hI hO
                have h3 : ac.tmps.getD 3 undef = .pointer (some ⟨B2, 0, none⟩) := hO 3 (by simp); show Brings Try.prog (fun v w' => Turned (fun _ => False) W w' ∧ v = .pointer (some ⟨B2, 3, none⟩)) _; simp only [execOp, Act.eval, h3]; go_simp
                try exact tq
            case s1 =>
              refine fun hs hle => stepG_free [19] [] (by kernel_rfl) rfl ?_
              · intro ac W hT hI hO
                have hle : hs.length ≤ 2 := hle; have h19 : ac.tmps.getD 19 undef = _ := hI 19 (by simp); show Brings Try.prog (fun v w' => Turned (fun _ => False) W w' ∧ v = .slice a j c) _; obtain ⟨_, _, _, d3⟩ := OwnS.blk HOI.out hs W hle hT; simp only [execOp, Act.eval, h19]; go_simp; exact ⟨Turned.refl _ _, rfl⟩
            case s2 =>
              refine fun hs hle => stepG_free [] [1] (by kernel_rfl) rfl ?_
              · intro ac W hT hI hO
                have hle : hs.length ≤ 0 := hle; have h1 : ac.tmps.getD 1 undef = .pointer (some ⟨B0, 0, none⟩) := hO 1 (by simp); show Brings Try.prog (fun v w' => Turned (fun _ => False) W w' ∧ v = .pointer (some ⟨B0, 3, none⟩)) _; simp only [execOp, Act.eval, h1]; go_simp
                try exact tq
            case s3 =>
              refine fun hs hle => stepG_free [21] [] (by kernel_rfl) rfl ?_
              · intro ac W hT hI hO
                have hle : hs.length ≤ 0 := hle; have h21 : ac.tmps.getD 21 undef = _ := hI 21 (by simp); show Brings Try.prog (fun v w' => Turned (fun _ => False) W w' ∧ v = .slice (some ⟨b, o, none⟩) t.args.length cd) _; have hT0 : Turned (fun _ => False) wr W := own_nil (by omega) hT; have e3 := hT0.cell0 k3; have g0 := hT0.cell0 c0; have g1 := hT0.cell0 c1; have g2 := hT0.cell0 c2; have g3 := hT0.cell0 c3; simp only [execOp, Act.eval, h21]; go_simp; exact ⟨Turned.refl _ _, rfl⟩
            case s4 =>
              refine fun hs hle => stepG_free [] [4] (by kernel_rfl) rfl ?_
              · intro ac W hT hI hO
                have hle : hs.length ≤ 0 := hle; have h4 : ac.tmps.getD 4 undef = .int .i64 (j : Int) := hO 4 (by simp); show Brings Try.prog (fun v w' => Turned (fun _ => False) W w' ∧ v = .int .i64 (j : Int)) _; simp only [execOp, Act.eval, h4]; go_simp
                try exact tq
            case s5 =>
              refine fun hs hle => stepG_free [22, 23] [] (by kernel_rfl) rfl ?_
              · intro ac W hT hI hO
                have hle : hs.length ≤ 0 := hle; have h22 : ac.tmps.getD 22 undef = _ := hI 22 (by simp); have h23 : ac.tmps.getD 23 undef = _ := hI 23 (by simp); show Brings Try.prog (fun v w' => Turned (fun _ => False) W w' ∧ v = .pointer (some ⟨b, o + j * 4, none⟩)) _; simp only [execOp, Act.eval, h22, h23]; go_simp
                try rw [if_pos (by omega)]
                try exact tq
            case s6 =>
              refine fun hs hle => stepG_free [24] [] (by kernel_rfl) rfl ?_
              · intro ac W hT hI hO
                have hle : hs.length ≤ 0 := hle; have h24 : ac.tmps.getD 24 undef = _ := hI 24 (by simp); show Brings Try.prog (fun v w' => Turned (fun _ => False) W w' ∧ v = .agg #[.int .i64 x.kind, .int .i64 x.n, .string x.name, .slice x.at_.1 x.args.length x.at_.2]) _; have hT0 : Turned (fun _ => False) wr W := own_nil (by omega) hT; have e3 := hT0.cell0 k3; have g0 := hT0.cell0 c0; have g1 := hT0.cell0 c1; have g2 := hT0.cell0 c2; have g3 := hT0.cell0 c3; simp only [execOp, Act.eval, h24]; go_simp; exact ⟨Turned.refl _ _, rfl⟩
            case s7 =>
              refine fun hs hlen => stepG_free [25] [] (by kernel_rfl) rfl ?_
              · intro ac W hT hI hO
                have h25 : ac.tmps.getD 25 undef = _ := hI 25 (by simp); show Brings Try.prog (fun v w' => OwnS N B2 t x w1 j us a c wr (hs ++ [v]) w') _; obtain rfl : hs = [] := List.eq_nil_of_length_eq_zero hlen; replace hT : Turned (fun _ => False) wr W := hT; simp only [execOp, Act.eval, h25]; go_simp; show Calls Try.prog 96 _ W _
                (with_reducible refine (HCX.out W hT).mono ?_)
                rintro e w' ⟨u, rfl, hb, hu, T'⟩
                exact ⟨_, rfl, hT.trans T', u, rfl, hb, hu.mono (fun k hk h => Nat.le_trans hT.size h)⟩
            case s8 =>
              refine fun hs hlen => stepG_free [26] [] (by kernel_rfl) rfl ?_
              · intro ac W hT hI hO
                have h26 : hs[0]? = some (ac.tmps.getD 26 undef) := hI 26 (by simp); show Brings Try.prog (fun v w' => OwnS N B2 t x w1 j us a c wr (hs ++ [v]) w') _; obtain ⟨uv, rfl⟩ := List.length_eq_one_iff.1 hlen; obtain ⟨hT1, u, rfl, hb, hu⟩ := hT
                replace h26 : ac.tmps.getD 26 undef = u.val := by simpa using h26.symm
                rw [LT.val_eq] at h26
                have h26' : ac.tmps[26]?.getD undef = .agg #[.int .i64 u.kind, .int .i64 u.n, .string u.name, .slice u.at_.1 u.args.length u.at_.2] := by rw [← Array.getD_eq_getD_getElem?]; exact h26
                simp only [execOp, Act.eval, h26]; go_simp; have hnew := heap_alloc_new W (.cells #[.int .i64 u.kind, .int .i64 u.n, .string u.name, .slice u.at_.1 u.args.length u.at_.2] 41); refine ⟨hT1.alloc _, u, W.heap.size, rfl, hb, hu.turned0 ((Turned.refl _ W).alloc _), ?_⟩; rw [LT.cells_eq]; exact hnew
            case s9 =>
              refine fun hs hlen => stepG_free [20, 27] [] (by kernel_rfl) rfl ?_
              · intro ac W hT hI hO
                have h20 : ac.tmps.getD 20 undef = _ := hI 20 (by simp); have h27 : hs[1]? = some (ac.tmps.getD 27 undef) := hI 27 (by simp); show Brings Try.prog (fun v w' => OwnS N B2 t x w1 j us a c wr (hs ++ [v]) w') _; obtain ⟨uv, sv, rfl⟩ := list2' hlen; obtain ⟨hT1, u, g, rfl, hb, hu, hg⟩ := hT
                replace h27 : ac.tmps.getD 27 undef = .slice (some ⟨g, 0, none⟩) 1 1 := by simpa using h27.symm
                refine brings_append (.tmp 20) (.tmp 27) 39 rfl 41 i0 zeroR 4 56 Try.underlying39 hi0 hz0 hz1 hz2 rfl (by decide) _ _ _ h20 (HOI.out.row.turned0 hT1) ⟨g, 0, none⟩ 1 1 u.cells h27 (LT.cells_length u) (news_block hg) (LT.cells_one u) (by omega) (by unfold maxLen; omega) (by omega) ?_; intro g2 cap2 w2 hrow2 T2 hl2
                have hgw : some g2 = (Value.slice a j c).ownBlock ∨ wr.heap.size ≤ g2 := by
                  rcases hl2 with e | e
                  · exact .inl e
                  · have := hT1.size; exact .inr (by omega)
                refine ⟨u, g2, cap2, rfl, hb, hrow2, ?_, (hT1.mono (fun _ _ f => f.elim)).trans T2, hgw⟩; refine hu.turned T2 (fun k hk h e => ?_) (fun k hk h => ⟨h, fun e => ?_⟩)
                · have := HOI.out.row.lt k e; omega
                · subst e
                  rcases hl2 with e | e
                  · have := HOI.out.row.lt k e.symm; omega
                  · omega
            case s10 =>
              refine fun hs hle => stepG_free [] [3] (by kernel_rfl) rfl ?_
              · intro ac W hT hI hO
                have h3 : ac.tmps.getD 3 undef = .pointer (some ⟨B2, 0, none⟩) := hO 3 (by simp); show Brings Try.prog (fun v w' => Turned (fun _ => False) W w' ∧ v = .pointer (some ⟨B2, 3, none⟩)) _; simp only [execOp, Act.eval, h3]; go_simp
                try exact tq
            case s11 =>
              refine fun hs hlen => stepG_free [29, 28] [] (by kernel_rfl) rfl ?_
              · intro ac W hT hI hO
                have h29 : ac.tmps.getD 29 undef = _ := hI 29 (by simp); have h28 : hs[2]? = some (ac.tmps.getD 28 undef) := hI 28 (by simp); show Brings Try.prog (fun v w' => OwnS N B2 t x w1 j us a c wr (hs ++ [v]) w') _; obtain ⟨uv, sv, av, rfl⟩ := list3' hlen; obtain ⟨u, g, cap, rfl, hb, hrow, hu, hT2, hg⟩ := hT
                replace h28 : ac.tmps.getD 28 undef = .slice (some ⟨g, 0, none⟩) (j + 1) cap := by simpa using h28.symm
                have hbl := (hT2.block B2 (Array.getElem?_eq_some_iff.1 HOI.out.blk).1 (fun e => by have := HOI.out.own B2 e; have := HBN.out.1; omega)).trans HOI.out.blk; obtain ⟨_, _, _, d3, _, _, _, f3⟩ := cells4 hbl; simp only [execOp, Act.eval, h29, h28]; go_simp; exact ⟨_, _, _, own_close HBN.out.1 HBN.out.2.1 HOI.out HX.out hb hrow hu hT2 hg HBN.out.2.2⟩
          case hQ =>
            intro hs vs w2 hlen hR hV; obtain ⟨e1, e2, e3, e4, rfl⟩ : ∃ a b c d, hs = [a, b, c, d] := list4' hlen; obtain ⟨us', a', c', hI⟩ := hR; have HI' := hid hI; simp only [List.foldl_cons, List.foldl_nil, List.setIfInBounds_toArray, List.set_cons_zero, List.set_cons_succ]; clear hV hlen hI
            go_wp2_with fail
            go_roundg (gk - 1)
            case measure => have := HG.out; omega
            case rel => exact ⟨j + 1, show _ = _ by have := HG.out; omega, by omega, by go_num, us', a', c', HI'⟩
      · obtain rfl : j = t.args.length := by omega
        have hb1 := (HOI.out.turned.block B1 (Array.getElem?_eq_some_iff.1 H3.out.2.2.2.2).1 (fun e => by have := HE.out; omega)).trans H3.out.2.2.2.2; obtain ⟨d0, d1, d2, d3, f0, f1, f2, f3⟩ := cells4 hb1; obtain ⟨g0, g1, g2, g3, _⟩ := cells4 HOI.out.blk; have HB1 := hid hb1; clear hb1
        go_wp2_with fail
        have hset := set4 (a' := .int .i64 t.kind) (b' := .int .i64 t.n) (c' := .string t.name) (d' := .slice a t.args.length c) HB1.out
        have hge : w.heap.size ≤ B1 := by have := HE.out; omega
        have T4 := turned4 (a := .int .i64 t.kind) (b := .int .i64 t.n) (c := .string t.name) (d := .slice a t.args.length c) HTw.out hge; refine bodyPost_ret (v := .agg #[.int .i64 t.kind, .int .i64 t.n, .string t.name, .slice a t.args.length c]) (results_cell_row Try.results96 _ _ B1 41 _ (0, 0) _ rfl hset Try.underlying41 rfl (by kernel_rfl)) rfl ?_
        have hne : ∀ q, (Value.slice a t.args.length c).ownBlock ≠ some (Addr.block ⟨B1, q, none⟩) := fun q e => by have h1 : N ≤ B1 := HOI.out.own _ e; have := HE.out; omega
        have hrow := ((((HOI.out.row.setCell (hne 0) (.int .i64 t.kind)).setCell (hne 1) (.int .i64 t.n)).setCell (hne 2) (.string t.name)).setCell (hne 3) (.slice a t.args.length c)); have Tq : Turned (fun k => k = B1) wr _ := ((((Turned.refl (fun k => k = B1) wr).setCell (p := ⟨B1, 0, none⟩) (.inr rfl) (.int .i64 t.kind)).setCell (p := ⟨B1, 1, none⟩) (.inr rfl) (.int .i64 t.n)).setCell (p := ⟨B1, 2, none⟩) (.inr rfl) (.string t.name)).setCell (p := ⟨B1, 3, none⟩) (.inr rfl) (.slice a t.args.length c); have hins := HOI.out.ins.turned (q := fun k => w.heap.size ≤ k) Tq (fun k _ hk e => by have := HE.out; omega) (fun k _ hk => by have := HE.out; omega); obtain ⟨e1, e2⟩ := LT.Sl.of_row (p := fun k => w.heap.size ≤ k) hrow (fun k hk => by have := HOI.out.own k hk; have := HE.out; omega) hins; refine ⟨.mk t.kind t.n t.name (a, c) us, ?_, ?_, e2.in_ HIN.out.kind HIN.out.n HIN.out.name, T4⟩
        · show _ = Ending.returned (LT.val (.mk t.kind t.n t.name (a, c) us))
          rw [LT.val_eq]; show _ = Ending.returned (.agg #[.int .i64 t.kind, .int .i64 t.n, .string t.name, .slice a us.length c]); rw [HUL.out]
        · rw [mk_bare t, Tm.bare, HOI.out.bares, List.take_length]
end Go.Proofs.Ytoihjobdfjajfaa
namespace Go.Proofs.Ytoihjobdfjajfaa
open Lib (hid)
open Go.RowKit Go.Maps
set_option maxRecDepth 100000 in
set_option maxHeartbeats 3200000 in
theorem rFrom80 {p : Nat → Prop} {t : LT} {w : World} {first : Int} (ht : t.In p w) (hf : I64 first) :
    Calls Try.prog 80 #[t.val, .int .i64 first] w fun e w' => ∃ (u : LT) (m er : Int), e = .returned (.tuple #[u.val, .int .i64 m, .int .i64 er]) ∧ FromR t.bare first u.bare m er ∧ u.In (fun k => p k ∨ w.heap.size ≤ k) w' ∧ Turned (fun _ => False) w w' := by
  have h2 := twoBox w (.cells #[.int .i64 t.kind, .int .i64 t.n, .string t.name, .slice t.at_.1 t.args.length t.at_.2] 41) (.cells #[.int .i64 0, .int .i64 0, .string ⟨#[]⟩, .slice none 0 0] 41); have hgo := rGood45 (ht.turned0 h2.1); obtain ⟨hf1, hf2⟩ := hf; have H2 := hid h2
  obtain ⟨p', hp'⟩ : ∃ q : Nat → Prop, q = fun k => p k ∧ k < w.heap.size := ⟨_, rfl⟩
  have HPL : Hid (∀ k, p' k → p k ∧ k < w.heap.size) := by intro k hq; rw [hp'] at hq; exact hq
  have ht' : t.In p' w := ht.mono (fun k hk h => by rw [hp']; exact ⟨h, hk⟩); have HIN := hid ht'; clear hp' ht'; rw [LT.val_eq] at hgo ⊢; clear ht h2
  have hboxes : ∀ W, Turned (fun _ => False) ((w.alloc (.cells #[.int .i64 t.kind, .int .i64 t.n, .string t.name, .slice t.at_.1 t.args.length t.at_.2] 41)).alloc (.cells #[.int .i64 0, .int .i64 0, .string ⟨#[]⟩, .slice none 0 0] 41)) W →
      W.heap[w.heap.size]? = some (.cells #[.int .i64 t.kind, .int .i64 t.n, .string t.name, .slice t.at_.1 t.args.length t.at_.2] 41 (0, 0)) ∧ W.heap[w.heap.size + 1]? = some (.cells #[.int .i64 0, .int .i64 0, .string ⟨#[]⟩, .slice none 0 0] 41 (0, 0)) := fun W h =>
    ⟨(h.block _ (Array.getElem?_eq_some_iff.1 H2.out.2.2.1).1 (fun f => f)).trans H2.out.2.2.1, (h.block _ (Array.getElem?_eq_some_iff.1 H2.out.2.2.2).1 (fun f => f)).trans H2.out.2.2.2⟩
  have HBX := hid hboxes; clear hboxes
  have fin : ∀ W, Turned (fun _ => False) ((w.alloc (.cells #[.int .i64 t.kind, .int .i64 t.n, .string t.name, .slice t.at_.1 t.args.length t.at_.2] 41)).alloc (.cells #[.int .i64 0, .int .i64 0, .string ⟨#[]⟩, .slice none 0 0] 41)) W →
      W.heap[w.heap.size + 1]? = some (.cells #[.int .i64 0, .int .i64 0, .string ⟨#[]⟩, .slice none 0 0] 41 (0, 0)) ∧
      ((((W.setCell ⟨w.heap.size + 1, 0, none⟩ (.int .i64 0)).setCell ⟨w.heap.size + 1, 1, none⟩ (.int .i64 0)).setCell ⟨w.heap.size + 1, 2, none⟩ (.string ⟨#[]⟩)).setCell ⟨w.heap.size + 1, 3, none⟩ (.slice none 0 0)).heap[w.heap.size + 1]? = some (.cells #[.int .i64 0, .int .i64 0, .string ⟨#[]⟩, .slice none 0 0] 41 (0, 0)) ∧
      Turned (fun _ => False) w ((((W.setCell ⟨w.heap.size + 1, 0, none⟩ (.int .i64 0)).setCell ⟨w.heap.size + 1, 1, none⟩ (.int .i64 0)).setCell ⟨w.heap.size + 1, 2, none⟩ (.string ⟨#[]⟩)).setCell ⟨w.heap.size + 1, 3, none⟩ (.slice none 0 0)) := fun W h => by
    obtain ⟨_, b1⟩ := HBX.out W h; exact ⟨b1, set4 b1, turned4 (H2.out.1.trans h) (by omega)⟩
  have FIN := hid fin; clear fin
  by_cases hall : goodB t = true ∧ 0 ≤ first ∧ first ≤ 2147483647
  · obtain ⟨hg, h0, h1⟩ := hall
    have hvars := fun W (h : Turned (fun _ => False) w W) => rVars51 (HIN.out.turned0 h)
    rw [LT.val_eq] at hvars
    have ev : varsB t = t.vars := by unfold varsB; rw [if_pos hg]
    have hle : t.vars.length ≤ 2000 := by have := varsB_le t; rw [ev] at this; exact this
    rw [ev] at hvars; obtain ⟨vs, hvs⟩ : ∃ z, z = t.vars := ⟨_, rfl⟩; rw [← hvs] at hvars hle; have HV := hid hvars; have HVS := hid hvs; have HG := hid hg; rw [hg] at hgo; have HGO := hid hgo
    have hnum : ∀ x ∈ t.flat, x.kind = 0 → x.n ∈ vs := fun x hx hk => by
      rw [hvs, ← Tm.vars_bare]; exact (Tm.vars_mem x.n).2 ⟨x.bare, by rw [Tm.flat_bare]; exact List.mem_map_of_mem hx, by rw [Tm.bare_kind]; exact hk, Tm.bare_n x⟩
    have HNUM := hid hnum; clear hgo hvars hvs hg ev hnum; have d1 : decide (first < 0) = false := decide_eq_false (by omega); have d2 : decide (first ≥ 2147483648) = false := decide_eq_false (by omega); have d2' : decide (2147483648 ≤ first) = false := decide_eq_false (by omega)
    by_cases hov : first + (vs.length : Int) ≤ 2147483648
    · have d3 : decide (2147483648 < first + (vs.length : Int)) = false := decide_eq_false (by omega)
      have HREN := hid (fun va vc W (h : Turned (fun _ => False) w W) hrow => rename140 (va := va) (vc := vc) h0 (by omega) hle t.depth p' t W (Nat.le_refl _) (HIN.out.turned0 h) (good_ones HG.out) HNUM.out hrow); rw [LT.val_eq t] at HREN; go_enter Try.func80, Try.ntmps80
      go_wp2_with (first
        | (go_at_call 45; (with_reducible refine HGO.out.mono ?_); rintro e w3 ⟨rfl, T3⟩; obtain ⟨b0, b1⟩ := HBX.out _ T3; obtain ⟨c0, c1, c2, c3, _⟩ := cells4 b0; clear b0 b1)
        | (go_at_call 51; (with_reducible refine (HV.out _ (H2.out.1.trans T3)).mono ?_); rintro e w4 ⟨v, rfl, hrow, hown, T4⟩; obtain ⟨va, vc, rfl⟩ := hrow.shape; obtain ⟨b0, b1⟩ := HBX.out _ (T3.trans T4); obtain ⟨g0, g1, g2, g3, _⟩ := cells4 b0; have hmx := hrow.max; have HROW := hid hrow; have TT := H2.out.1.trans (T3.trans T4); clear b0 b1 hrow)
        | (go_at_call 140; (with_reducible refine (HREN.out va vc _ TT HROW.out).mono ?_); rintro e w5 ⟨u, rfl, hub, hui, T5⟩; rw [LT.val_eq u]; obtain ⟨b0, b1⟩ := HBX.out _ ((T3.trans T4).trans T5); obtain ⟨_, _, _, _, f0, f1, f2, f3⟩ := cells4 b1; have HB1 := hid b1; have HU := hid (And.intro hub hui); clear b0 b1 hub hui))
      have hset := set4 (a' := .int .i64 u.kind) (b' := .int .i64 u.n) (c' := .string u.name) (d' := .slice u.at_.1 u.args.length u.at_.2) HB1.out; have T4' := turned4 (a := .int .i64 u.kind) (b := .int .i64 u.n) (c := .string u.name) (d := .slice u.at_.1 u.args.length u.at_.2) (TT.trans T5) (g := w.heap.size + 1) (by omega); refine bodyPost_ret (results_cell_tmp2 Try.results80 _ _ (w.heap.size + 1) 41 _ (0, 0) _ rfl hset Try.underlying41 rfl (by kernel_rfl)) rfl ⟨u, first + (vs.length : Int), 0, by rw [LT.val_eq u]; rfl, ?_, ?_, T4'⟩
      · unfold FromR
        rw [if_pos ⟨by rw [goodB_bare]; exact HG.out, h0, h1⟩, Tm.vars_bare, ← HVS.out, if_pos hov]; refine ⟨rfl, rfl, ?_⟩; rw [HU.out.1, HVS.out]; unfold Tm.fromT; rw [Tm.vars_bare]
      · have Tq : Turned (fun k => k = w.heap.size + 1) w5 _ := ((((Turned.refl (fun k => k = w.heap.size + 1) w5).setCell (p := ⟨w.heap.size + 1, 0, none⟩) (.inr rfl) (.int .i64 u.kind)).setCell (p := ⟨w.heap.size + 1, 1, none⟩) (.inr rfl) (.int .i64 u.n)).setCell (p := ⟨w.heap.size + 1, 2, none⟩) (.inr rfl) (.string u.name)).setCell (p := ⟨w.heap.size + 1, 3, none⟩) (.inr rfl) (.slice u.at_.1 u.args.length u.at_.2)
        have hpl := HPL.out
        have hsz : w.heap.size + 2 ≤ w4.heap.size := by have := (T3.trans T4).size; have := H2.out.2.1; omega
        refine LT.In.turned Tq (fun k _ hk e => ?_) (fun k _ hk => ?_) u HU.out.2
        · rcases hk with h | h
          · have := (hpl k h).2; omega
          · omega
        · rcases hk with h | h
          · exact .inl (hpl k h).1
          · exact .inr (by omega)
    · have d3 : decide (2147483648 < first + (vs.length : Int)) = true := decide_eq_true (by omega)
      go_enter Try.func80, Try.ntmps80
      go_wp2_with (first
        | (go_at_call 45; (with_reducible refine HGO.out.mono ?_); rintro e w3 ⟨rfl, T3⟩; obtain ⟨b0, b1⟩ := HBX.out _ T3; obtain ⟨c0, c1, c2, c3, _⟩ := cells4 b0; clear b0 b1)
        | (go_at_call 51; (with_reducible refine (HV.out _ (H2.out.1.trans T3)).mono ?_); rintro e w4 ⟨v, rfl, hrow, hown, T4⟩; obtain ⟨va, vc, rfl⟩ := hrow.shape; have hmx := hrow.max; obtain ⟨b1, hset, T4'⟩ := FIN.out _ (T3.trans T4); obtain ⟨d0, d1, d2, d3, f0, f1, f2, f3⟩ := cells4 b1; have HSET := hid hset; clear hset b1 hrow))
      refine bodyPost_ret (results_cell_tmp2 Try.results80 _ _ (w.heap.size + 1) 41 _ (0, 0) _ rfl HSET.out Try.underlying41 rfl (by kernel_rfl)) rfl ⟨leaf 0 0 ByteArray.empty, 0, 3, rfl, ?_, vtIn, T4'⟩; unfold FromR; rw [if_pos ⟨by rw [goodB_bare]; exact HG.out, h0, h1⟩, Tm.vars_bare, ← HVS.out, if_neg (by omega)]; exact ⟨rfl, rfl, rfl⟩
  · have hbad : ∀ (u : Tm Unit) (m er : Int), FromR t.bare first u m er = (er = 1 ∧ m = 0 ∧ u = Tm.V 0) := fun u m er => by
      unfold FromR; rw [if_neg (by rw [goodB_bare]; exact hall)]
    have HBAD := hid hbad; clear hbad
    cases hg : goodB t with
    | false =>
      rw [hg] at hgo; have HGO := hid hgo; clear hgo hg hall; go_enter Try.func80, Try.ntmps80
      go_wp2_with (go_at_call 45; (with_reducible refine HGO.out.mono ?_); rintro e w3 ⟨rfl, T3⟩; obtain ⟨b1, hset, T4⟩ := FIN.out _ T3; obtain ⟨d0, d1, d2, d3, f0, f1, f2, f3⟩ := cells4 b1; have HSET := hid hset; clear hset b1)
      refine bodyPost_ret (results_cell_tmp2 Try.results80 _ _ (w.heap.size + 1) 41 _ (0, 0) _ rfl HSET.out Try.underlying41 rfl (by kernel_rfl)) rfl ⟨leaf 0 0 ByteArray.empty, 0, 1, rfl, ?_, vtIn, T4⟩; rw [HBAD.out]; exact ⟨rfl, rfl, rfl⟩
    | true =>
      rw [hg] at hgo; have HGO := hid hgo
      have hout : first < 0 ∨ 2147483647 < first := by
        rcases Int.lt_or_le first 0 with h | h
        · exact .inl h
        · rcases Int.lt_or_le 2147483647 first with h' | h'
          · exact .inr h'
          · exact absurd ⟨hg, h, h'⟩ hall
      clear hgo hg hall
      rcases hout with hout | hout
      · have d1 : decide (first < 0) = true := decide_eq_true hout
        go_enter Try.func80, Try.ntmps80
        go_wp2_with (go_at_call 45; (with_reducible refine HGO.out.mono ?_); rintro e w3 ⟨rfl, T3⟩; obtain ⟨b1, hset, T4⟩ := FIN.out _ T3; obtain ⟨d0, d1, d2, d3, f0, f1, f2, f3⟩ := cells4 b1; have HSET := hid hset; clear hset b1)
        refine bodyPost_ret (results_cell_tmp2 Try.results80 _ _ (w.heap.size + 1) 41 _ (0, 0) _ rfl HSET.out Try.underlying41 rfl (by kernel_rfl)) rfl ⟨leaf 0 0 ByteArray.empty, 0, 1, rfl, ?_, vtIn, T4⟩; rw [HBAD.out]; exact ⟨rfl, rfl, rfl⟩
      · have d1 : decide (first < 0) = false := decide_eq_false (by omega)
        have d2 : decide (2147483648 ≤ first) = true := decide_eq_true (by omega); go_enter Try.func80, Try.ntmps80
        go_wp2_with (go_at_call 45; (with_reducible refine HGO.out.mono ?_); rintro e w3 ⟨rfl, T3⟩; obtain ⟨b1, hset, T4⟩ := FIN.out _ T3; obtain ⟨d0, d1, d2, d3, f0, f1, f2, f3⟩ := cells4 b1; have HSET := hid hset; clear hset b1)
        refine bodyPost_ret (results_cell_tmp2 Try.results80 _ _ (w.heap.size + 1) 41 _ (0, 0) _ rfl HSET.out Try.underlying41 rfl (by kernel_rfl)) rfl ⟨leaf 0 0 ByteArray.empty, 0, 1, rfl, ?_, vtIn, T4⟩; rw [HBAD.out]; exact ⟨rfl, rfl, rfl⟩
theorem rFromGood {p : Nat → Prop} {t : LT} {w : World} (ht : t.In p w) (hg : goodB t = true) :
    Calls Try.prog 80 #[.agg #[.int .i64 t.kind, .int .i64 t.n, .string t.name, .slice t.at_.1 t.args.length t.at_.2], .int .i64 0] w fun e w' => ∃ (u : LT), e = .returned (.tuple #[.agg #[.int .i64 u.kind, .int .i64 u.n, .string u.name, .slice u.at_.1 u.args.length u.at_.2], .int .i64 (t.vars.length : Int), .int .i64 0]) ∧ u.bare = Tm.plainT t.bare ∧ u.In (fun _ => True) w' ∧ Turned (fun _ => False) w w' := by
  have h := rFrom80 ht (first := 0) (i64_lit 0 (by omega)); rw [LT.val_eq] at h; refine h.mono ?_
  rintro e w' ⟨u, m, er, rfl, hR, hi, hT⟩
  obtain ⟨rfl, rfl, hR2⟩ := fromR_good (by rw [goodB_bare]; exact hg) hR; exact ⟨u, by rw [LT.val_eq u, Tm.vars_bare], hR2, hi.mono (fun _ _ _ => trivial), hT⟩
theorem rFromBad {p : Nat → Prop} {t : LT} {w : World} (ht : t.In p w) (hg : goodB t = false) :
    Calls Try.prog 80 #[.agg #[.int .i64 t.kind, .int .i64 t.n, .string t.name, .slice t.at_.1 t.args.length t.at_.2], .int .i64 0] w fun e w' => ∃ (u : LT), e = .returned (.tuple #[.agg #[.int .i64 u.kind, .int .i64 u.n, .string u.name, .slice u.at_.1 u.args.length u.at_.2], .int .i64 0, .int .i64 1]) ∧ u.bare = Tm.V 0 ∧ u.In (fun _ => True) w' ∧ Turned (fun _ => False) w w' := by
  have h := rFrom80 ht (first := 0) (i64_lit 0 (by omega)); rw [LT.val_eq] at h; refine h.mono ?_
  rintro e w' ⟨u, m, er, rfl, hR, hi, hT⟩
  obtain ⟨rfl, rfl, hR2⟩ := fromR_bad (by rw [goodB_bare]; exact hg) hR; exact ⟨u, by rw [LT.val_eq u], hR2, hi.mono (fun _ _ _ => trivial), hT⟩
set_option maxRecDepth 100000 in
set_option maxHeartbeats 3200000 in
theorem rAlike82 {p : Nat → Prop} {a b : LT} {w : World} (ha : a.In p w) (hb : b.In p w) :
    Calls Try.prog 82 #[a.val, b.val] w fun e w' => e = .returned (.bool (alikeB a b)) ∧ Turned (fun _ => False) w w' := by
  have h2 := twoBox w (.cells #[.int .i64 a.kind, .int .i64 a.n, .string a.name, .slice a.at_.1 a.args.length a.at_.2] 41) (.cells #[.int .i64 b.kind, .int .i64 b.n, .string b.name, .slice b.at_.1 b.args.length b.at_.2] 41); have ha1 := ha.turned0 h2.1; have hb1 := hb.turned0 h2.1; rw [LT.val_eq a, LT.val_eq b]; have H2 := hid h2; have HA := hid ha1; have HB := hid hb1
  have hbx : ∀ W, Turned (fun _ => False) ((w.alloc (.cells #[.int .i64 a.kind, .int .i64 a.n, .string a.name, .slice a.at_.1 a.args.length a.at_.2] 41)).alloc (.cells #[.int .i64 b.kind, .int .i64 b.n, .string b.name, .slice b.at_.1 b.args.length b.at_.2] 41)) W → W.heap[w.heap.size + 1]? = some (.cells #[.int .i64 b.kind, .int .i64 b.n, .string b.name, .slice b.at_.1 b.args.length b.at_.2] 41 (0, 0)) := fun W h => (h.block _ (Array.getElem?_eq_some_iff.1 H2.out.2.2.2).1 (fun f => f)).trans H2.out.2.2.2
  have HBX := hid hbx; clear ha hb ha1 hb1 h2 hbx
  cases ga : goodB a with
  | false =>
    have e1 : alikeB a b = false := by unfold alikeB; rw [ga]; rfl
    rw [e1]; have h1 := rFromBad HA.out ga; have H1 := hid h1; clear h1 e1 ga
    cases gb : goodB b with
    | false =>
      have h3 := fun W (h : Turned (fun _ => False) _ W) => rFromBad (HB.out.turned0 h) gb
      have H3 := hid h3; clear h3 gb; go_enter Try.func82, Try.ntmps82
      go_wp2_with (first
        | (go_at_call 80; (with_reducible refine H1.out.mono ?_); rintro e w3 ⟨u, rfl, hub, hui, T3⟩; have TU := T3.alloc (.cells #[.int .i64 u.kind, .int .i64 u.n, .string u.name, .slice u.at_.1 u.args.length u.at_.2] 41); obtain ⟨d0, d1, d2, d3, _⟩ := cells4 (HBX.out _ TU))
        | (go_at_call 80; (with_reducible refine (H3.out _ TU).mono ?_); rintro e w4 ⟨v, rfl, hvb, hvi, T4⟩))
      go_ret; exact ⟨rfl, H2.out.1.trans ((TU.trans T4).alloc _)⟩
    | true =>
      have h3 := fun W (h : Turned (fun _ => False) _ W) => rFromGood (HB.out.turned0 h) gb
      have H3 := hid h3; clear h3 gb; go_enter Try.func82, Try.ntmps82
      go_wp2_with (first
        | (go_at_call 80; (with_reducible refine H1.out.mono ?_); rintro e w3 ⟨u, rfl, hub, hui, T3⟩; have TU := T3.alloc (.cells #[.int .i64 u.kind, .int .i64 u.n, .string u.name, .slice u.at_.1 u.args.length u.at_.2] 41); obtain ⟨d0, d1, d2, d3, _⟩ := cells4 (HBX.out _ TU))
        | (go_at_call 80; (with_reducible refine (H3.out _ TU).mono ?_); rintro e w4 ⟨v, rfl, hvb, hvi, T4⟩))
      go_ret; exact ⟨rfl, H2.out.1.trans ((TU.trans T4).alloc _)⟩
  | true =>
    have h1 := rFromGood HA.out ga; have H1 := hid h1; clear h1
    cases gb : goodB b with
    | false =>
      have e1 : alikeB a b = false := by unfold alikeB; rw [ga, gb]; rfl
      rw [e1]
      have h3 := fun W (h : Turned (fun _ => False) _ W) => rFromBad (HB.out.turned0 h) gb
      have H3 := hid h3; clear h3 gb ga e1; go_enter Try.func82, Try.ntmps82
      go_wp2_with (first
        | (go_at_call 80; (with_reducible refine H1.out.mono ?_); rintro e w3 ⟨u, rfl, hub, hui, T3⟩; have TU := T3.alloc (.cells #[.int .i64 u.kind, .int .i64 u.n, .string u.name, .slice u.at_.1 u.args.length u.at_.2] 41); obtain ⟨d0, d1, d2, d3, _⟩ := cells4 (HBX.out _ TU))
        | (go_at_call 80; (with_reducible refine (H3.out _ TU).mono ?_); rintro e w4 ⟨v, rfl, hvb, hvi, T4⟩))
      go_ret; exact ⟨rfl, H2.out.1.trans ((TU.trans T4).alloc _)⟩
    | true =>
      have h3 := fun W (h : Turned (fun _ => False) _ W) => rFromGood (HB.out.turned0 h) gb
      have H3 := hid h3; have GA := hid ga; have GB := hid gb; clear h3 ga gb; go_enter Try.func82, Try.ntmps82
      go_wp2_with (first
        | (go_at_call 80; (with_reducible refine H1.out.mono ?_); rintro e w3 ⟨u, rfl, hub, hui, T3⟩; have TU := T3.alloc (.cells #[.int .i64 u.kind, .int .i64 u.n, .string u.name, .slice u.at_.1 u.args.length u.at_.2] 41); obtain ⟨d0, d1, d2, d3, _⟩ := cells4 (HBX.out _ TU); have HUB := hid hub; have HUI := hid hui; have hbu := heap_alloc_new w3 (.cells #[.int .i64 u.kind, .int .i64 u.n, .string u.name, .slice u.at_.1 u.args.length u.at_.2] 41); have HBU := hid hbu; clear hub hui hbu)
        | (go_at_call 80; (with_reducible refine (H3.out _ TU).mono ?_); rintro e w4 ⟨v, rfl, hvb, hvi, T4⟩; have HVB := hid hvb; have HVI := hid hvi; have T4v := T4.alloc (.cells #[.int .i64 v.kind, .int .i64 v.n, .string v.name, .slice v.at_.1 v.args.length v.at_.2] 41); obtain ⟨e0, e1, e2, e3, _⟩ := cells4 ((T4v.block _ (Array.getElem?_eq_some_iff.1 HBU.out).1 (fun f => f)).trans HBU.out); clear hvb hvi))
      have hgu : goodB u = true := by rw [← goodB_bare, HUB.out]; exact plain_good (by rw [goodB_bare]; exact GA.out)
      have hgv : goodB v = true := by rw [← goodB_bare, HVB.out]; exact plain_good (by rw [goodB_bare]; exact GB.out)
      have hsm := rSame48 u.depth u v _ (Nat.le_refl _) (HUI.out.turned0 (((Turned.refl _ w3).alloc _).trans T4v)) (HVI.out.turned0 ((Turned.refl _ w4).alloc _))
      have hal : Tm.same u v = alikeB a b := by
        unfold alikeB; rw [GA.out, GB.out, ← HUB.out, ← HVB.out, ← same_bares]; rfl
      rw [LT.val_eq u, LT.val_eq v, hal] at hsm
      (with_reducible refine hsm.mono ?_)
      rintro e w5 ⟨rfl, T5⟩
      have T5' := H2.out.1.trans ((TU.trans T4v).trans T5)
      go_wp2_with fail
      go_ret; exact ⟨rfl, T5'⟩
end Go.Proofs.Ytoihjobdfjajfaa
namespace Go.Proofs.Ytoihjobdfjajfaa
open Go.RowKit Go.Maps
theorem ownVal96 {p : Nat → Prop} {t : LT} {w : World} (ht : t.In p w) (hs : slim t) : Calls Try.prog 96 #[.agg #[.int .i64 t.kind, .int .i64 t.n, .string t.name, .slice t.at_.1 t.args.length t.at_.2]] w fun e w' => ∃ u : LT, e = .returned (.agg #[.int .i64 u.kind, .int .i64 u.n, .string u.name, .slice u.at_.1 u.args.length u.at_.2]) ∧ u.bare = t.bare ∧ u.In (fun k => w.heap.size ≤ k) w' ∧ Turned (fun _ => False) w w' := by
  have := own96 t.depth t w (Nat.le_refl _) ht hs; rw [LT.val_eq] at this; refine this.mono ?_
  rintro e w' ⟨u, rfl, h1, h2, h3⟩
  exact ⟨u, by rw [LT.val_eq], h1, h2, h3⟩
theorem alikeV82 {p : Nat → Prop} {a b : LT} {w : World} {r : Bool} (ha : a.In p w) (hb : b.In p w) (hr : alikeB a b = r) : Calls Try.prog 82 #[.agg #[.int .i64 a.kind, .int .i64 a.n, .string a.name, .slice a.at_.1 a.args.length a.at_.2], .agg #[.int .i64 b.kind, .int .i64 b.n, .string b.name, .slice b.at_.1 b.args.length b.at_.2]] w fun e w' => e = .returned (.bool r) ∧ Turned (fun _ => False) w w' := by
  have := rAlike82 ha hb; rw [LT.val_eq, LT.val_eq, hr] at this; exact this
theorem CM.new {N bb : Nat} {O : Nat → Prop} {bx : List (Nat × Obj)} {ts : List LT} {w1 W1 W : World} (hN : N = w1.heap.size) (T1 : Turned (fun _ => False) w1 W1) (B : BO (fun k => k < N) bb O 0 [] W) (hO : ∀ k, O k → W1.heap.size ≤ k) (T : Turned (fun _ => False) W1 W) (hb : ∀ b ∈ bx, W1.heap[b.1]? = some b.2 ∧ N ≤ b.1) (ht : ∀ x ∈ ts, x.In (fun k => k < N) w1) :
    CM N bb W.heap.size 0 0 [] [] bx ts w1 (W.alloc (.cells #[.slice none 0 0, .slice none 0 0, .slice none 0 0] 113)) := by
  have T3 := (Turned.refl (fun _ => False) W).alloc (.cells #[.slice none 0 0, .slice none 0 0, .slice none 0 0] 113); have hs := T.size; have hs1 := T1.size; refine ⟨fun k => k < N, [], O, _, fun _ h => h, rfl, ⟨B.turned0 T3, newD W (fun k hk => by omega), fun k hk c => by have := B.lt k hk; omega⟩, fun k hk => by have := hO k hk; omega, fun k hk => by omega, (T1.trans T).trans T3, fun b h => ?_, fun x hx => (ht x hx).turned0 ((T1.trans T).trans T3)⟩; obtain ⟨h1, h2⟩ := hb b h; have hlt := (Array.getElem?_eq_some_iff.1 h1).1; exact ⟨((T.trans T3).block _ hlt (fun f => f)).trans h1, fun c => by have := hO _ c; omega, fun c => by omega, fun c => by omega⟩
def TwoC (b : Tm Unit) (V : Value) (Q : World → Prop) (w0 : World) : List Value → World → Prop
  | [], W => Turned (fun _ => False) w0 W
  | [a], W => Turned (fun _ => False) w0 W ∧ ∃ o : LT, a = agLT o ∧ o.bare = b ∧ o.In (fun k => w0.heap.size ≤ k) W
  | [_, c], W => c = V ∧ Q W
  | _, _ => False
theorem TwoC.turned0 {b : Tm Unit} {V : Value} {Q : World → Prop} {w0 : World} (hQ : ∀ W W', Q W → Turned (fun _ => False) W W' → Q W') : ∀ (hs : List Value) (w w' : World), TwoC b V Q w0 hs w → Turned (fun _ => False) w w' → TwoC b V Q w0 hs w'
  | [], _, _, h, T => Turned.trans h T
  | [_], _, _, ⟨h, o, h1, h2, h3⟩, T => ⟨h.trans T, o, h1, h2, h3.turned0 T⟩
  | [_, _], _, _, h, T => ⟨h.1, hQ _ _ h.2 T⟩
  | _ :: _ :: _ :: _, _, _, h, _ => h.elim
theorem TwoC.early {b : Tm Unit} {V : Value} {Q : World → Prop} {w0 : World} : ∀ (hs : List Value) (W : World), hs.length ≤ 1 → TwoC b V Q w0 hs W → Turned (fun _ => False) w0 W
  | [], _, _, h => h
  | [_], _, _, h => h.1
theorem TwoC.val {b : Tm Unit} {V : Value} {Q : World → Prop} {w0 : World} : ∀ (hs : List Value) (W : World) {x : Value}, TwoC b V Q w0 hs W → hs[1]? = some x → x = V
  | [], _, _, _, e => by simp at e
  | [_], _, _, _, e => by simp at e
  | [_, _], _, _, h, e => by simp at e; rw [← e]; exact h.1
  | _ :: _ :: _ :: _, _, _, h, _ => h.elim
theorem TwoC.end_ {b : Tm Unit} {V : Value} {Q : World → Prop} {w0 : World} : ∀ (hs : List Value) (W : World), TwoC b V Q w0 hs W → hs.length = 2 → Q W
  | [_, _], _, h, _ => h.2
theorem In.apart {u : LT} {w12 wr W : World} {X Y : Value} (h : u.In (fun k => k < w12.heap.size ∨ wr.heap.size ≤ k) W) (hX : ∀ k, X.ownBlock = some k → w12.heap.size ≤ k ∧ k < wr.heap.size) (hY : ∀ k, Y.ownBlock = some k → w12.heap.size ≤ k ∧ k < wr.heap.size) : u.In (fun k => X.ownBlock ≠ some k ∧ Y.ownBlock ≠ some k) W :=
  h.mono (fun k _ hk => ⟨fun c => by have := hX k c; omega, fun c => by have := hY k c; omega⟩)
def LkS (w12 : World) (X Y : Value) (n : Nat) (xb yb : List (Tm Unit)) (wr : World) : Prop :=
  ∃ xs ys : List LT, xs.map Tm.bare = xb ∧ ys.map Tm.bare = yb ∧ Row wr 41 4 X n (xs.flatMap LT.cells) ∧ Row wr 41 4 Y n (ys.flatMap LT.cells) ∧ (∀ k, X.ownBlock = some k → w12.heap.size ≤ k ∧ Y.ownBlock ≠ some k) ∧ (∀ k, Y.ownBlock = some k → w12.heap.size ≤ k) ∧ (∀ u, u ∈ xs ∨ u ∈ ys → u.In (fun k => X.ownBlock ≠ some k ∧ Y.ownBlock ≠ some k) wr) ∧ Turned (fun _ => False) w12 wr
theorem LkS.start (w12 : World) : LkS w12 (.slice none 0 0) (.slice none 0 0) 0 [] [] w12 :=
  ⟨[], [], rfl, rfl, Row.nil _ _ _, Row.nil _ _ _, fun k hk => (by cases hk), fun k hk => (by cases hk), fun u hu => (by rcases hu with hu | hu <;> cases hu), Turned.refl _ _⟩
theorem LkS.turned0 {w12 wr W : World} {X Y : Value} {n : Nat} {xb yb : List (Tm Unit)} (h : LkS w12 X Y n xb yb wr) (T : Turned (fun _ => False) wr W) : LkS w12 X Y n xb yb W := by
  obtain ⟨xs, ys, h1, h2, h3, h4, h5, h6, h7, h8⟩ := h; exact ⟨xs, ys, h1, h2, h3.turned0 T, h4.turned0 T, h5, h6, fun u hu => (h7 u hu).turned0 T, h8.trans T⟩
theorem LkS.step {w12 w0 W : World} {X Y : Value} {n g cap g' cap' : Nat} {xs ys : List LT} {xb yb : List (Tm Unit)} {o u : LT} (h1 : xs.map Tm.bare = xb) (h2 : ys.map Tm.bare = yb) (h3 : Row w0 41 4 X n (xs.flatMap LT.cells)) (h4 : Row w0 41 4 Y n (ys.flatMap LT.cells)) (h5 : ∀ k, X.ownBlock = some k → w12.heap.size ≤ k ∧ Y.ownBlock ≠ some k) (h6 : ∀ k, Y.ownBlock = some k → w12.heap.size ≤ k) (h7 : ∀ u, u ∈ xs ∨ u ∈ ys → u.In (fun k => X.ownBlock ≠ some k ∧ Y.ownBlock ≠ some k) w0) (h8 : Turned (fun _ => False) w12 w0)
    (hu : u.In (fun k => X.ownBlock ≠ some k ∧ Y.ownBlock ≠ some k) w0) (hne : g ≠ g') (ho : o.In (fun k => w0.heap.size ≤ k ∧ k ≠ g ∧ k ≠ g') W)
    (r1 : Row W 41 4 (.slice (some ⟨g, 0, none⟩) (n + 1) cap) (n + 1) (xs.flatMap LT.cells ++ o.cells)) (r2 : Row W 41 4 (.slice (some ⟨g', 0, none⟩) (n + 1) cap') (n + 1) (ys.flatMap LT.cells ++ u.cells)) (g1 : some g = X.ownBlock ∨ w0.heap.size ≤ g) (g2 : some g' = Y.ownBlock ∨ w0.heap.size ≤ g') (T : Turned (fun k => X.ownBlock = some k ∨ Y.ownBlock = some k) w0 W) :
    LkS w12 (.slice (some ⟨g, 0, none⟩) (n + 1) cap) (.slice (some ⟨g', 0, none⟩) (n + 1) cap') (n + 1) (xb ++ [o.bare]) (yb ++ [u.bare]) W := by
  have hs := h8.size
  have up : ∀ z : LT, z.In (fun k => X.ownBlock ≠ some k ∧ Y.ownBlock ≠ some k) w0 → z.In (fun k => (Value.slice (some ⟨g, 0, none⟩) (n + 1) cap).ownBlock ≠ some k ∧ (Value.slice (some ⟨g', 0, none⟩) (n + 1) cap').ownBlock ≠ some k) W := by
    intro z hz; refine LT.In.turned T (fun k _ hk c => c.elim hk.1 hk.2) (fun k hk hp => ⟨fun c => ?_, fun c => ?_⟩) z hz
    · simp only [Value.ownBlock, Option.some.injEq] at c
      subst c; exact g1.elim (fun e => hp.1 e.symm) (fun e => by omega)
    · simp only [Value.ownBlock, Option.some.injEq] at c
      subst c; exact g2.elim (fun e => hp.2 e.symm) (fun e => by omega)
  refine ⟨xs ++ [o], ys ++ [u], by rw [List.map_append, h1]; rfl, by rw [List.map_append, h2]; rfl, ?_, ?_, fun k hk => ?_, fun k hk => ?_, fun z hz => ?_, h8.step T (fun i hi e => ?_)⟩
  · rw [List.flatMap_append, List.flatMap_cons, List.flatMap_nil, List.append_nil]; exact r1
  · rw [List.flatMap_append, List.flatMap_cons, List.flatMap_nil, List.append_nil]; exact r2
  · simp only [Value.ownBlock, Option.some.injEq] at hk ⊢
    subst hk; exact ⟨g1.elim (fun e => (h5 _ e.symm).1) (fun e => by omega), fun e => by cases e; exact hne rfl⟩
  · simp only [Value.ownBlock, Option.some.injEq] at hk
    subst hk; exact g2.elim (fun e => h6 _ e.symm) (fun e => by omega)
  · have hz' : (z ∈ xs ∨ z ∈ ys) ∨ z = u ∨ z = o := by
      rcases hz with hz | hz <;> rcases List.mem_append.1 hz with hz | hz
      · exact .inl (.inl hz)
      · exact .inr (.inr (List.mem_singleton.1 hz))
      · exact .inl (.inr hz)
      · exact .inr (.inl (List.mem_singleton.1 hz))
    rcases hz' with hz | rfl | rfl
    · exact up z (h7 z hz)
    · exact up _ hu
    · exact ho.mono (fun k _ hk => ⟨fun c => by simp only [Value.ownBlock, Option.some.injEq] at c; exact hk.2.1 c.symm, fun c => by simp only [Value.ownBlock, Option.some.injEq] at c; exact hk.2.2 c.symm⟩)
  · rcases e with e | e
    · have := (h5 i e).1; omega
    · have := h6 i e; omega
end Go.Proofs.Ytoihjobdfjajfaa
namespace Go.Proofs.Ytoihjobdfjajfaa
open Lib (hid)
open Go.RowKit Go.Maps
def LX (b : Tm Unit) (vv : Value) (W : World) : Prop := ∃ x : LT, vv = .agg #[.int .i64 x.kind, .int .i64 x.n, .string x.name, .slice x.at_.1 x.args.length x.at_.2] ∧ x.In (fun _ => True) W ∧ x.bare = b
def SX (n : Nat) (vv : Value) : Prop := ∃ x : Option Addr × Nat, vv = .slice x.1 n x.2
theorem back94' {p : Nat → Prop} {t : LT} {w : World} {aL : Option Addr} {cL : Nat} (hin : t.In p w) (hg : goodB t = true) (hk : t.kind = 2) (hr : Row w 139 6 (.slice aL (Tm.sizes t.args) cL) (Tm.sizes t.args) ((Tm.steps t.vars t.args (Tm.sizes t.args)).flatMap stC)) :
    Calls Try.prog 94 #[.agg #[.int .i64 (t.args.length : Int), .int .i64 (t.vars.length : Int), .int .i64 (Tm.sizes t.args : Int), .slice aL (Tm.sizes t.args) cL], .string t.name] w fun e w' => ∃ u : LT, e = .returned (.tuple #[.agg #[.int .i64 u.kind, .int .i64 u.n, .string u.name, .slice u.at_.1 u.args.length u.at_.2], .int .i64 0]) ∧ u.bare = Tm.fromT t.bare 0 ∧ u.In (fun _ => True) w' ∧ Turned (fun _ => False) w w' := by
  have hl := Tm.steps_length t.vars t.args (Tm.sizes t.args); have h := back94 (aL := aL) (cL := cL) (L := Tm.steps t.vars t.args (Tm.sizes t.args)) hin hg hk rfl rfl (by rw [hl]; exact hr); rw [hl] at h; exact h
theorem varsV34c {p : Nat → Prop} {w : World} {t : LT} (hu : t.In p w) (hg : goodB t = true) : Calls Try.prog 34 #[.agg #[.int .i64 t.kind, .int .i64 t.n, .string t.name, .slice t.at_.1 t.args.length t.at_.2]] w fun e w' => ∃ v, e = .returned v ∧ SX t.vars.length v ∧ Turned (fun _ => False) w w' := by
  refine (varsVal hu (by rw [goodB_bare]; exact hg)).mono ?_
  rintro e w' ⟨va, vc, rfl, _, T⟩
  exact ⟨_, rfl, ⟨(va, vc), rfl⟩, T⟩
theorem alike_from {a b : LT} {t : LT} (hg : goodB t = true) (ha : a.bare = Tm.fromT t.bare 0) (hb : b.bare = t.bare) : alikeB a b = true := by
  have hg' : goodB t.bare = true := by rw [goodB_bare]; exact hg
  have hgf : goodB (Tm.fromT t.bare 0) = true := goodB_fromT hg' (Int.le_refl _) (by
    have h1 := vars_le t; have h := hg; unfold goodB at h; simp only [Bool.and_eq_true, decide_eq_true_eq] at h; rw [Tm.vars_bare]
    omega)
  unfold alikeB; rw [← goodB_bare a, ← goodB_bare b, ha, hb, hg', hgf]
  have e : Tm.plainT (Tm.fromT t.bare 0) = Tm.plainT t.bare := by
    unfold Tm.plainT; exact Tm.fromT_ren (good_leafy hg') (Tm.fromS_inj t.bare.vars 0) 0
  rw [e, (Tm.same_unit _ _).2 rfl]; rfl
set_option maxRecDepth 100000 in
set_option maxHeartbeats 12800000 in
theorem codeBackA {t : LT} {w : World} (ht : t.In (fun _ => True) w) : Calls Try.prog 20 #[.agg #[.int .i64 t.kind, .int .i64 t.n, .string t.name, .slice t.at_.1 t.args.length t.at_.2]] w fun e w' => e = .returned (.bool true) ∧ Turned (fun _ => False) w w' := by
  have T1 := (Turned.refl (fun _ => False) w).alloc (.cells #[.int .i64 t.kind, .int .i64 t.n, .string t.name, .slice t.at_.1 t.args.length t.at_.2] 27); obtain ⟨w2, hw2⟩ : ∃ z, z = w.alloc (.cells #[.int .i64 t.kind, .int .i64 t.n, .string t.name, .slice t.at_.1 t.args.length t.at_.2] 27) := ⟨_, rfl⟩; have hnew := heap_alloc_new w (.cells #[.int .i64 t.kind, .int .i64 t.n, .string t.name, .slice t.at_.1 t.args.length t.at_.2] 27); rw [← hw2] at T1 hnew
  have hcx : ∀ W, Turned (fun _ => False) w2 W → W.cell? ⟨w.heap.size, 0, none⟩ = some (.int .i64 t.kind) ∧ W.cell? ⟨w.heap.size, 1, none⟩ = some (.int .i64 t.n) ∧ W.cell? ⟨w.heap.size, 2, none⟩ = some (.string t.name) ∧ W.cell? ⟨w.heap.size, 3, none⟩ = some (.slice t.at_.1 t.args.length t.at_.2) := fun W T => by
    have c := cells4 ((T.block _ (Array.getElem?_eq_some_iff.1 hnew).1 (fun f => f)).trans hnew); exact ⟨c.1, c.2.1, c.2.2.1, c.2.2.2.1⟩
  have HCX := hid hcx; have HW2 := hid hw2; have HT1 := hid T1; have HTI := hid (ht.turned0 T1); clear hcx hw2 T1 ht hnew; obtain ⟨d, hd⟩ : ∃ z, z = deepB 70 t := ⟨_, rfl⟩; have HD := hid hd.symm
  cases d with
  | true =>
    clear hd; go_enter Try.func20, Try.ntmps20
    go_wp2_with (first
    | (go_at_call 92; have HT3 := HT3; (with_reducible refine (deepVal92 70 t _ 70 rfl (by omega) (HTI.out.turned0 HT3.out)).mono ?_); rintro e w4 ⟨rfl, T4⟩; rw [HD.out]; have HT4 := hid (HT3.out.trans T4); clear T4; obtain ⟨k0, k1, k2, k3⟩ := HCX.out w4 HT4.out)
    | (go_at_call 91; rw [← HW2.out]; (with_reducible refine (awake91 w2).mono ?_); rintro e w3 ⟨rfl, T3⟩; have HT3 := hid T3; clear T3; obtain ⟨k0, k1, k2, k3⟩ := HCX.out w3 HT3.out))
    go_ret; exact ⟨rfl, HT1.out.trans HT4.out⟩
  | false =>
  have HSL := hid (deep_slim 70 t hd.symm); clear hd; obtain ⟨g, hg⟩ : ∃ g, g = goodB t := ⟨_, rfl⟩; have HG := hid hg.symm
  cases g with
  | false =>
    have HNO : Hid (¬ (goodB t = true ∧ 2 ≤ t.kind)) := fun c => by rw [← hg] at c; cases c.1
    clear hg; go_enter Try.func20, Try.ntmps20
    go_wp2_with (first
    | (go_at_call 38; have HT5 := HT5; (with_reducible refine (goodVal' (HTI.out.turned0 HT5.out) HSL.out HG.out).mono ?_); rintro e w6 ⟨rfl, T6⟩; have HT6 := hid (HT5.out.trans T6); clear T6; obtain ⟨k0, k1, k2, k3⟩ := HCX.out w6 HT6.out)
    | (go_at_call 93; have HT4 := HT4; (with_reducible refine (head93_no (HTI.out.turned0 HT4.out) HSL.out HNO.out).mono ?_); rintro e w5 ⟨rfl, T5⟩; have HT5 : Hid (Turned (fun _ => False) w2 (w5.alloc (.cells #[.int .i64 0, .int .i64 0, .int .i64 0, .slice none 0 0] 104))) := (HT4.out.trans T5).alloc (.cells #[.int .i64 0, .int .i64 0, .int .i64 0, .slice none 0 0] 104); clear T5; obtain ⟨k0, k1, k2, k3⟩ := HCX.out _ HT5.out)
    | (go_at_call 92; have HT3 := HT3; (with_reducible refine (deepVal92 70 t _ 70 rfl (by omega) (HTI.out.turned0 HT3.out)).mono ?_); rintro e w4 ⟨rfl, T4⟩; rw [HD.out]; have HT4 := hid (HT3.out.trans T4); clear T4; obtain ⟨k0, k1, k2, k3⟩ := HCX.out w4 HT4.out)
    | (go_at_call 91; rw [← HW2.out]; (with_reducible refine (awake91 w2).mono ?_); rintro e w3 ⟨rfl, T3⟩; have HT3 := hid T3; clear T3; obtain ⟨k0, k1, k2, k3⟩ := HCX.out w3 HT3.out))
    go_ret; exact ⟨rfl, HT1.out.trans HT6.out⟩
  | true =>
  by_cases hk : t.kind = 2
  case neg =>
    have hone : goodOneB t = true := by
      have h := hg.symm; unfold goodB at h; simp only [Bool.and_eq_true, decide_eq_true_eq, List.all_eq_true] at h; exact h.2.2 t (by rw [Tm.flat_eq]; exact List.mem_cons_self ..)
    have HNO : Hid (¬ (goodB t = true ∧ 2 ≤ t.kind)) := fun c => by
      by_cases h0 : t.kind = 0
      · have := c.2; omega
      by_cases h1 : t.kind = 1
      · have := c.2; omega
      rw [goodOneB_3 t h0 h1 hk] at hone
      cases hone
    have bk : (t.kind != 2) = true := by simp [hk]
    clear hg hk hone; go_enter Try.func20, Try.ntmps20
    go_wp2_with (first
    | (go_at_call 38; have HT5 := HT5; (with_reducible refine (goodVal' (HTI.out.turned0 HT5.out) HSL.out HG.out).mono ?_); rintro e w6 ⟨rfl, T6⟩; have HT6 := hid (HT5.out.trans T6); clear T6; obtain ⟨k0, k1, k2, k3⟩ := HCX.out w6 HT6.out)
    | (go_at_call 93; have HT4 := HT4; (with_reducible refine (head93_no (HTI.out.turned0 HT4.out) HSL.out HNO.out).mono ?_); rintro e w5 ⟨rfl, T5⟩; have HT5 : Hid (Turned (fun _ => False) w2 (w5.alloc (.cells #[.int .i64 0, .int .i64 0, .int .i64 0, .slice none 0 0] 104))) := (HT4.out.trans T5).alloc (.cells #[.int .i64 0, .int .i64 0, .int .i64 0, .slice none 0 0] 104); clear T5; obtain ⟨k0, k1, k2, k3⟩ := HCX.out _ HT5.out)
    | (go_at_call 92; have HT3 := HT3; (with_reducible refine (deepVal92 70 t _ 70 rfl (by omega) (HTI.out.turned0 HT3.out)).mono ?_); rintro e w4 ⟨rfl, T4⟩; rw [HD.out]; have HT4 := hid (HT3.out.trans T4); clear T4; obtain ⟨k0, k1, k2, k3⟩ := HCX.out w4 HT4.out)
    | (go_at_call 91; rw [← HW2.out]; (with_reducible refine (awake91 w2).mono ?_); rintro e w3 ⟨rfl, T3⟩; have HT3 := hid T3; clear T3; obtain ⟨k0, k1, k2, k3⟩ := HCX.out w3 HT3.out))
    go_ret; exact ⟨rfl, HT1.out.trans HT6.out⟩
  have bk : (t.kind != 2) = false := by simp [hk]
  have HK := hid hk; have hgb := hg.symm
  have hsz : t.size ≤ 2000 := by
    unfold goodB at hgb; simp only [Bool.and_eq_true, decide_eq_true_eq] at hgb; exact hgb.1
  have hsz2 : ((min t.size 2001 : Nat) : Int) = (Tm.sizes t.args : Int) + 1 := by have := Tm.size_eq t; omega
  have HSZ := hid hsz2
  have HSB : Hid (Tm.sizes t.args ≤ 2000) := by show _ ≤ _; have := Tm.size_eq t; omega
  have hbk : ∀ (aL : Option Addr) (cL : Nat) W, Turned (fun _ => False) w2 W → Row W 139 6 (.slice aL (Tm.sizes t.args) cL) (Tm.sizes t.args) ((Tm.steps t.vars t.args (Tm.sizes t.args)).flatMap stC) → Calls Try.prog 94 #[.agg #[.int .i64 (t.args.length : Int), .int .i64 (t.vars.length : Int), .int .i64 (Tm.sizes t.args : Int), .slice aL (Tm.sizes t.args) cL], .string t.name] W fun e w' => ∃ u : LT, e = .returned (.tuple #[.agg #[.int .i64 u.kind, .int .i64 u.n, .string u.name, .slice u.at_.1 u.args.length u.at_.2], .int .i64 0]) ∧ u.bare = Tm.fromT t.bare 0 ∧ u.In (fun _ => True) w' ∧ Turned (fun _ => False) W w' := fun aL cL W T hr => back94' (HTI.out.turned0 T) HG.out HK.out hr
  have HBK := hid hbk; clear hg hk hgb hsz hsz2 hbk; go_enter Try.func20, Try.ntmps20
  go_wp2_with (first
  | (go_at_call 94; (with_reducible refine (HBK.out aL cL w6 HT6.out HR6.out).mono ?_); rintro e w7 ⟨u, rfl, hub, hui, T7⟩; have HU := hid (And.intro hub (hui.turned0 ((Turned.refl (fun _ => False) w7).alloc (.cells #[.int .i64 u.kind, .int .i64 u.n, .string u.name, .slice u.at_.1 u.args.length u.at_.2] 27)))); have HT7 : Hid (Turned (fun _ => False) w6 (w7.alloc (.cells #[.int .i64 u.kind, .int .i64 u.n, .string u.name, .slice u.at_.1 u.args.length u.at_.2] 27))) := T7.alloc (.cells #[.int .i64 u.kind, .int .i64 u.n, .string u.name, .slice u.at_.1 u.args.length u.at_.2] 27); have hb7 := heap_alloc_new w7 (.cells #[.int .i64 u.kind, .int .i64 u.n, .string u.name, .slice u.at_.1 u.args.length u.at_.2] 27); have HB7 := hid hb7; clear hub hui T7 hb7)
  | (go_at_call 38; have HT5 := HT5; have HB5 := HB5; (with_reducible refine (goodVal' (HTI.out.turned0 HT5.out) HSL.out HG.out).mono ?_); rintro e w6 ⟨rfl, T6⟩; have HT6 := hid (HT5.out.trans T6); have HR6 := hid (HROW.out.turned0 T6); have hb6 := (T6.block _ (by simp) (fun f => f)).trans HB5.out; obtain ⟨z0, z1, z2, z3, _⟩ := cells4 hb6; have HB6 := hid hb6; clear T6 hb6; obtain ⟨k0, k1, k2, k3⟩ := HCX.out w6 HT6.out)
  | (go_at_call 93; have HT4 := HT4; (with_reducible refine (head93 (HTI.out.turned0 HT4.out) HG.out HK.out).mono ?_); rintro e w5 ⟨lv, rfl, hrow, hnew, T5⟩; obtain ⟨aL, cL, rfl⟩ := row_slice hrow; have HROW := hid (hrow.turned0 ((Turned.refl (fun _ => False) w5).alloc (.cells #[.int .i64 (t.args.length : Int), .int .i64 (t.vars.length : Int), .int .i64 (Tm.sizes t.args : Int), .slice aL (Tm.sizes t.args) cL] 104))); have hb5 := heap_alloc_new w5 (.cells #[.int .i64 (t.args.length : Int), .int .i64 (t.vars.length : Int), .int .i64 (Tm.sizes t.args : Int), .slice aL (Tm.sizes t.args) cL] 104); have HB5 := hid hb5; have HT5 : Hid (Turned (fun _ => False) w2 (w5.alloc (.cells #[.int .i64 (t.args.length : Int), .int .i64 (t.vars.length : Int), .int .i64 (Tm.sizes t.args : Int), .slice aL (Tm.sizes t.args) cL] 104))) := (HT4.out.trans T5).alloc (.cells #[.int .i64 (t.args.length : Int), .int .i64 (t.vars.length : Int), .int .i64 (Tm.sizes t.args : Int), .slice aL (Tm.sizes t.args) cL] 104); clear hrow hnew T5 hb5; obtain ⟨k0, k1, k2, k3⟩ := HCX.out _ HT5.out)
  | (go_at_call 92; have HT3 := HT3; (with_reducible refine (deepVal92 70 t _ 70 rfl (by omega) (HTI.out.turned0 HT3.out)).mono ?_); rintro e w4 ⟨rfl, T4⟩; rw [HD.out]; have HT4 := hid (HT3.out.trans T4); clear T4; obtain ⟨k0, k1, k2, k3⟩ := HCX.out w4 HT4.out)
  | (go_at_call 91; rw [← HW2.out]; (with_reducible refine (awake91 w2).mono ?_); rintro e w3 ⟨rfl, T3⟩; have HT3 := hid T3; clear T3; obtain ⟨k0, k1, k2, k3⟩ := HCX.out w3 HT3.out))
  have HC3 := hid (fun W (T : Turned (fun _ => False) (w7.alloc (.cells #[.int .i64 u.kind, .int .i64 u.n, .string u.name, .slice u.at_.1 u.args.length u.at_.2] 27)) W) => cells4 ((T.block _ (Array.getElem?_eq_some_iff.1 ((HT7.out.block _ (Array.getElem?_eq_some_iff.1 HB6.out).1 (fun f => f)).trans HB6.out)).1 (fun f => f)).trans ((HT7.out.block _ (Array.getElem?_eq_some_iff.1 HB6.out).1 (fun f => f)).trans HB6.out))); have HC5 := hid (fun W (T : Turned (fun _ => False) (w7.alloc (.cells #[.int .i64 u.kind, .int .i64 u.n, .string u.name, .slice u.at_.1 u.args.length u.at_.2] 27)) W) => cells4 ((T.block _ (Array.getElem?_eq_some_iff.1 HB7.out).1 (fun f => f)).trans HB7.out)); have HC1 := hid (fun W (T : Turned (fun _ => False) (w7.alloc (.cells #[.int .i64 u.kind, .int .i64 u.n, .string u.name, .slice u.at_.1 u.args.length u.at_.2] 27)) W) => HCX.out W ((HT6.out.trans HT7.out).trans T)); have HRW := hid (fun W (T : Turned (fun _ => False) (w7.alloc (.cells #[.int .i64 u.kind, .int .i64 u.n, .string u.name, .slice u.at_.1 u.args.length u.at_.2] 27)) W) => (HR6.out.turned0 HT7.out).turned0 T); have HTI7 := hid (fun W (T : Turned (fun _ => False) (w7.alloc (.cells #[.int .i64 u.kind, .int .i64 u.n, .string u.name, .slice u.at_.1 u.args.length u.at_.2] 27)) W) => HTI.out.turned0 ((HT6.out.trans HT7.out).trans T)); have hgu : slim u := good_slimB (by rw [HU.out.1]; exact goodB_fromT (by rw [goodB_bare]; exact HG.out) (Int.le_refl _) (by have h1 := vars_le t; have h2 := Tm.size_eq t; have h3 := HSB.out; rw [Tm.vars_bare]; omega)); have HSU := hid hgu; clear hgu; refine wp_region_ssa' (G := (fun dd vv W => (match dd with | 33 => vv = .int .i64 0 | 34 => vv = .bool true | 35 => vv = .bool true | 36 => vv = .agg #[.int .i64 (t.args.length : Int), .int .i64 (t.vars.length : Int), .int .i64 (Tm.sizes t.args : Int), .slice aL (Tm.sizes t.args) cL] | 37 => vv = .bool true | 38 => vv = .bool true | 39 => vv = .bool true | 40 => vv = .int .i64 0 | 41 => vv = .bool true | 42 => vv = .bool true | 43 => vv = .bool true | 44 => vv = .agg #[.int .i64 u.kind, .int .i64 u.n, .string u.name, .slice u.at_.1 u.args.length u.at_.2] | 46 => vv = .agg #[.int .i64 t.kind, .int .i64 t.n, .string t.name, .slice t.at_.1 t.args.length t.at_.2] | 48 => vv = .bool true | 49 => vv = .bool true | 50 => vv = .bool true | 51 => vv = .pointer (some ⟨w5.heap.size, 2, none⟩) | 52 => vv = .int .i64 (Tm.sizes t.args : Int) | 53 => vv = .agg #[.int .i64 t.kind, .int .i64 t.n, .string t.name, .slice t.at_.1 t.args.length t.at_.2] | 54 => vv = .int .i64 ((Tm.sizes t.args : Int) + 1) | 55 => vv = .int .i64 (Tm.sizes t.args : Int) | 56 => vv = .bool true | 57 => vv = .bool true | 58 => vv = .bool true | 59 => vv = .pointer (some ⟨w5.heap.size, 1, none⟩) | 60 => vv = .int .i64 (t.vars.length : Int) | 61 => vv = .agg #[.int .i64 t.kind, .int .i64 t.n, .string t.name, .slice t.at_.1 t.args.length t.at_.2] | 63 => vv = .int .i64 (t.vars.length : Int) | 64 => vv = .bool true | 65 => vv = .bool true | 66 => vv = .bool true | 67 => vv = .pointer (some ⟨w5.heap.size, 0, none⟩) | 68 => vv = .int .i64 (t.args.length : Int) | 69 => vv = .pointer (some ⟨w.heap.size, 3, none⟩) | 70 => vv = .slice t.at_.1 t.args.length t.at_.2 | 71 => vv = .int .i64 (t.args.length : Int) | 72 => vv = .bool true | 73 => vv = .bool true | 2 => vv = .bool true | 45 => LX (Tm.fromT t.bare 0) (vv) W | 47 => LX t.bare (vv) W | 62 => SX t.vars.length vv | _ => True : Prop))) [33, 34, 35, 36, 37, 38, 39, 40, 41, 42, 43, 44, 45, 46, 47, 48, 49, 50, 51, 52, 53, 54, 55, 56, 57, 58, 59, 60, 61, 62, 63, 64, 65, 66, 67, 68, 69, 70, 71, 72, 73, 2] (by kernel_rfl) rfl (by kernel_rfl) ?hG ?hs ?hQ
  case hG =>
    intro d vv W W2 T h
    split at h <;> first
      | exact h
      | (obtain ⟨x, x1, x2, x3⟩ := h; exact ⟨x, x1, x2.turned0 T, x3⟩)
  case hs =>
    refine ⟨?s0, ?s1, ?s2, ?s3, ?s4, ?s5, ?s6, ?s7, ?s8, ?s9, ?s10, ?s11, ?s12, ?s13, ?s14, ?s15, ?s16, ?s17, ?s18, ?s19, ?s20, ?s21, ?s22, ?s23, ?s24, ?s25, ?s26, ?s27, ?s28, ?s29, ?s30, ?s31, ?s32, ?s33, ?s34, ?s35, ?s36, ?s37, ?s38, ?s39, ?s40, ?s41, trivial⟩
    case s0 =>
      refine stepOk_free [] [4] (by kernel_rfl) rfl ?_; intro ac W hT hI hO; have h4 : ac.tmps.getD 4 undef = .int .i64 0 := hO 4 (by simp); show Brings _ (fun v _ => _ ∧ v = _) _; simp only [execOp, Act.eval, h4]; go_simp
      try exact tq
    case s1 =>
      refine stepOk_free [33] [] (by kernel_rfl) rfl ?_; intro ac W hT hI hO; have h33 : ac.tmps.getD 33 undef = _ := hI 33 (by simp); show Brings _ (fun v _ => _ ∧ v = _) _; simp only [execOp, Act.eval, h33]; go_simp
      try exact tq
    case s2 =>
      refine stepOk_free [34] [] (by kernel_rfl) rfl ?_; intro ac W hT hI hO; have h34 : ac.tmps.getD 34 undef = _ := hI 34 (by simp); show Brings _ (fun v _ => _ ∧ v = _) _; simp only [execOp, Act.eval, h34]; go_simp
      try exact tq
    case s3 =>
      refine stepOk_guard [35] [3] (by kernel_rfl) 2 true 35 rfl rfl (by simp) true true (fun _ _ h => h) (fun hc => ?_) (fun hc => by cases hc); intro ac W hT hI hO; have h3 : ac.tmps.getD 3 undef = .pointer (some ⟨w5.heap.size, 0, none⟩) := hO 3 (by simp); show Brings _ (fun v _ => _ ∧ v = _) _; obtain ⟨z0, z1, z2, z3, _⟩ := HC3.out W hT; simp only [execOp, Act.eval, h3]; go_simp
      try exact tq
    case s4 =>
      refine stepOk_guard [36, 35] [] (by kernel_rfl) 2 true 35 rfl rfl (by simp) true true (fun _ _ h => h) (fun hc => ?_) (fun hc => by cases hc); intro ac W hT hI hO; have h36 : ac.tmps.getD 36 undef = _ := hI 36 (by simp); show Brings _ (fun v _ => _ ∧ v = _) _; simp only [execOp, Act.eval, h36]; go_simp; show Calls Try.prog 95 _ W _
      (with_reducible refine (goodHead95' (HTI7.out W hT) HG.out HK.out (HRW.out W hT)).mono ?_)
      rintro e w' ⟨rfl, T'⟩
      exact ⟨_, rfl, T', rfl⟩
    case s5 =>
      refine stepOk_free [35, 37] [] (by kernel_rfl) rfl ?_; intro ac W hT hI hO; have h35 : ac.tmps.getD 35 undef = _ := hI 35 (by simp); have h37 : ac.tmps.getD 37 undef = _ := hI 37 (by simp); show Brings _ (fun v _ => _ ∧ v = _) _; simp only [execOp, Act.eval, h35, h37]; go_simp
      try exact tq
    case s6 =>
      refine stepOk_free [38] [] (by kernel_rfl) rfl ?_; intro ac W hT hI hO; have h38 : ac.tmps.getD 38 undef = _ := hI 38 (by simp); show Brings _ (fun v _ => _ ∧ v = _) _; simp only [execOp, Act.eval, h38]; go_simp
      try exact tq
    case s7 =>
      refine stepOk_guard [39] [6] (by kernel_rfl) 6 true 39 rfl rfl (by simp) true true (fun _ _ h => h) (fun hc => ?_) (fun hc => by cases hc); intro ac W hT hI hO; have h6 : ac.tmps.getD 6 undef = .int .i64 0 := hO 6 (by simp); show Brings _ (fun v _ => _ ∧ v = _) _; simp only [execOp, Act.eval, h6]; go_simp
      try exact tq
    case s8 =>
      refine stepOk_guard [40, 39] [] (by kernel_rfl) 6 true 39 rfl rfl (by simp) true true (fun _ _ h => h) (fun hc => ?_) (fun hc => by cases hc); intro ac W hT hI hO; have h40 : ac.tmps.getD 40 undef = _ := hI 40 (by simp); show Brings _ (fun v _ => _ ∧ v = _) _; simp only [execOp, Act.eval, h40]; go_simp
      try exact tq
    case s9 =>
      refine stepOk_free [39, 41] [] (by kernel_rfl) rfl ?_; intro ac W hT hI hO; have h39 : ac.tmps.getD 39 undef = _ := hI 39 (by simp); have h41 : ac.tmps.getD 41 undef = _ := hI 41 (by simp); show Brings _ (fun v _ => _ ∧ v = _) _; simp only [execOp, Act.eval, h39, h41]; go_simp
      try exact tq
    case s10 =>
      refine stepOk_free [42] [] (by kernel_rfl) rfl ?_; intro ac W hT hI hO; have h42 : ac.tmps.getD 42 undef = _ := hI 42 (by simp); show Brings _ (fun v _ => _ ∧ v = _) _; simp only [execOp, Act.eval, h42]; go_simp
      try exact tq
    case s11 =>
      refine stepOk_guard [43] [5] (by kernel_rfl) 10 true 43 rfl rfl (by simp) true true (fun _ _ h => h) (fun hc => ?_) (fun hc => by cases hc); intro ac W hT hI hO; have h5 : ac.tmps.getD 5 undef = .pointer (some ⟨w7.heap.size, 0, none⟩) := hO 5 (by simp); show Brings _ (fun v _ => _ ∧ v = _) _; obtain ⟨y0, y1, y2, y3, _⟩ := HC5.out W hT; simp only [execOp, Act.eval, h5]; go_simp
      try exact tq
    case s12 =>
      refine stepOk_guard [44, 43] [] (by kernel_rfl) 10 true 43 rfl rfl (by simp) true true (fun _ _ h => h) (fun hc => ?_) (fun hc => by cases hc); intro ac W hT hI hO; have h44 : ac.tmps.getD 44 undef = _ := hI 44 (by simp); show Brings Try.prog (fun vv w' => Turned (fun _ => False) W w' ∧ LX (Tm.fromT t.bare 0) (vv) w') _; simp only [execOp, Act.eval, h44]; go_simp; show Calls Try.prog 96 _ W _; refine (ownVal96 (HU.out.2.turned0 hT) HSU.out).mono ?_
      rintro e w' ⟨X, rfl, g1, g2, T'⟩
      exact ⟨_, rfl, T', X, rfl, g2.mono (fun _ _ _ => trivial), g1.trans HU.out.1⟩
    case s13 =>
      refine stepOk_guard [43] [1] (by kernel_rfl) 10 true 43 rfl rfl (by simp) true true (fun _ _ h => h) (fun hc => ?_) (fun hc => by cases hc); intro ac W hT hI hO; have h1 : ac.tmps.getD 1 undef = .pointer (some ⟨w.heap.size, 0, none⟩) := hO 1 (by simp); show Brings _ (fun v _ => _ ∧ v = _) _; obtain ⟨k0, k1, k2, k3⟩ := HC1.out W hT; simp only [execOp, Act.eval, h1]; go_simp
      try exact tq
    case s14 =>
      refine stepOk_guard [46, 43] [] (by kernel_rfl) 10 true 43 rfl rfl (by simp) true true (fun _ _ h => h) (fun hc => ?_) (fun hc => by cases hc); intro ac W hT hI hO; have h46 : ac.tmps.getD 46 undef = _ := hI 46 (by simp); show Brings Try.prog (fun vv w' => Turned (fun _ => False) W w' ∧ LX t.bare (vv) w') _; simp only [execOp, Act.eval, h46]; go_simp; show Calls Try.prog 96 _ W _; refine (ownVal96 (HTI7.out W hT) HSL.out).mono ?_
      rintro e w' ⟨X, rfl, g1, g2, T'⟩
      exact ⟨_, rfl, T', X, rfl, g2.mono (fun _ _ _ => trivial), g1⟩
    case s15 =>
      refine stepOk_guard [45, 47, 43] [] (by kernel_rfl) 10 true 43 rfl rfl (by simp) true true (fun _ _ h => h) (fun hc => ?_) (fun hc => by cases hc); intro ac W hT hI hO; have h45 := hI 45 (by simp); obtain ⟨o45, h45, x45, y45⟩ : LX (Tm.fromT t.bare 0) (ac.tmps.getD 45 undef) W := h45; have h47 := hI 47 (by simp); obtain ⟨o47, h47, x47, y47⟩ : LX t.bare (ac.tmps.getD 47 undef) W := h47; show Brings _ (fun v _ => _ ∧ v = _) _; simp only [execOp, Act.eval, h45, h47]; go_simp; show Calls Try.prog 82 _ W _
      (with_reducible refine (alikeV82 (p := fun _ => True) x45 x47 (alike_from HG.out y45 y47)).mono ?_)
      rintro e w' ⟨rfl, T'⟩
      exact ⟨_, rfl, T', rfl⟩
    case s16 =>
      refine stepOk_free [43, 48] [] (by kernel_rfl) rfl ?_; intro ac W hT hI hO; have h43 : ac.tmps.getD 43 undef = _ := hI 43 (by simp); have h48 : ac.tmps.getD 48 undef = _ := hI 48 (by simp); show Brings _ (fun v _ => _ ∧ v = _) _; simp only [execOp, Act.eval, h43, h48]; go_simp
      try exact tq
    case s17 =>
      refine stepOk_free [49] [] (by kernel_rfl) rfl ?_; intro ac W hT hI hO; have h49 : ac.tmps.getD 49 undef = _ := hI 49 (by simp); show Brings _ (fun v _ => _ ∧ v = _) _; simp only [execOp, Act.eval, h49]; go_simp
      try exact tq
    case s18 =>
      refine stepOk_guard [50] [3] (by kernel_rfl) 17 true 50 rfl rfl (by simp) true true (fun _ _ h => h) (fun hc => ?_) (fun hc => by cases hc); intro ac W hT hI hO; have h3 : ac.tmps.getD 3 undef = .pointer (some ⟨w5.heap.size, 0, none⟩) := hO 3 (by simp); show Brings _ (fun v _ => _ ∧ v = _) _; simp only [execOp, Act.eval, h3]; go_simp
      try exact tq
    case s19 =>
      refine stepOk_guard [51, 50] [] (by kernel_rfl) 17 true 50 rfl rfl (by simp) true true (fun _ _ h => h) (fun hc => ?_) (fun hc => by cases hc); intro ac W hT hI hO; have h51 : ac.tmps.getD 51 undef = _ := hI 51 (by simp); show Brings _ (fun v _ => _ ∧ v = _) _; obtain ⟨z0, z1, z2, z3, _⟩ := HC3.out W hT; simp only [execOp, Act.eval, h51]; go_simp
      try exact tq
    case s20 =>
      refine stepOk_guard [50] [1] (by kernel_rfl) 17 true 50 rfl rfl (by simp) true true (fun _ _ h => h) (fun hc => ?_) (fun hc => by cases hc); intro ac W hT hI hO; have h1 : ac.tmps.getD 1 undef = .pointer (some ⟨w.heap.size, 0, none⟩) := hO 1 (by simp); show Brings _ (fun v _ => _ ∧ v = _) _; obtain ⟨k0, k1, k2, k3⟩ := HC1.out W hT; simp only [execOp, Act.eval, h1]; go_simp
      try exact tq
    case s21 =>
      refine stepOk_guard [53, 50] [] (by kernel_rfl) 17 true 50 rfl rfl (by simp) true true (fun _ _ h => h) (fun hc => ?_) (fun hc => by cases hc); intro ac W hT hI hO; have h53 : ac.tmps.getD 53 undef = _ := hI 53 (by simp); show Brings _ (fun v _ => _ ∧ v = _) _; simp only [execOp, Act.eval, h53]; go_simp; show Calls Try.prog 35 _ W _
      (with_reducible refine (sizeV35 (HTI7.out W hT) HSL.out HSZ.out).mono ?_)
      rintro e w' ⟨rfl, T'⟩
      exact ⟨_, rfl, T', rfl⟩
    case s22 =>
      refine stepOk_guard [54, 50] [] (by kernel_rfl) 17 true 50 rfl rfl (by simp) true true (fun _ _ h => h) (fun hc => ?_) (fun hc => by cases hc); intro ac W hT hI hO; have h54 : ac.tmps.getD 54 undef = _ := hI 54 (by simp); show Brings _ (fun v _ => _ ∧ v = _) _; have hsb := HSB.out; have hw : IntKind.i64.wrap (Tm.sizes t.args : Int) = (Tm.sizes t.args : Int) := wrapI (by omega) (by omega); simp only [execOp, Act.eval, h54]; go_simp
      try exact tq
    case s23 =>
      refine stepOk_guard [52, 55, 50] [] (by kernel_rfl) 17 true 50 rfl rfl (by simp) true true (fun _ _ h => h) (fun hc => ?_) (fun hc => by cases hc); intro ac W hT hI hO; have h52 : ac.tmps.getD 52 undef = _ := hI 52 (by simp); have h55 : ac.tmps.getD 55 undef = _ := hI 55 (by simp); show Brings _ (fun v _ => _ ∧ v = _) _; simp only [execOp, Act.eval, h52, h55]; go_simp
      try exact tq
    case s24 =>
      refine stepOk_free [50, 56] [] (by kernel_rfl) rfl ?_; intro ac W hT hI hO; have h50 : ac.tmps.getD 50 undef = _ := hI 50 (by simp); have h56 : ac.tmps.getD 56 undef = _ := hI 56 (by simp); show Brings _ (fun v _ => _ ∧ v = _) _; simp only [execOp, Act.eval, h50, h56]; go_simp
      try exact tq
    case s25 =>
      refine stepOk_free [57] [] (by kernel_rfl) rfl ?_; intro ac W hT hI hO; have h57 : ac.tmps.getD 57 undef = _ := hI 57 (by simp); show Brings _ (fun v _ => _ ∧ v = _) _; simp only [execOp, Act.eval, h57]; go_simp
      try exact tq
    case s26 =>
      refine stepOk_guard [58] [3] (by kernel_rfl) 25 true 58 rfl rfl (by simp) true true (fun _ _ h => h) (fun hc => ?_) (fun hc => by cases hc); intro ac W hT hI hO; have h3 : ac.tmps.getD 3 undef = .pointer (some ⟨w5.heap.size, 0, none⟩) := hO 3 (by simp); show Brings _ (fun v _ => _ ∧ v = _) _; simp only [execOp, Act.eval, h3]; go_simp
      try exact tq
    case s27 =>
      refine stepOk_guard [59, 58] [] (by kernel_rfl) 25 true 58 rfl rfl (by simp) true true (fun _ _ h => h) (fun hc => ?_) (fun hc => by cases hc); intro ac W hT hI hO; have h59 : ac.tmps.getD 59 undef = _ := hI 59 (by simp); show Brings _ (fun v _ => _ ∧ v = _) _; obtain ⟨z0, z1, z2, z3, _⟩ := HC3.out W hT; simp only [execOp, Act.eval, h59]; go_simp
      try exact tq
    case s28 =>
      refine stepOk_guard [58] [1] (by kernel_rfl) 25 true 58 rfl rfl (by simp) true true (fun _ _ h => h) (fun hc => ?_) (fun hc => by cases hc); intro ac W hT hI hO; have h1 : ac.tmps.getD 1 undef = .pointer (some ⟨w.heap.size, 0, none⟩) := hO 1 (by simp); show Brings _ (fun v _ => _ ∧ v = _) _; obtain ⟨k0, k1, k2, k3⟩ := HC1.out W hT; simp only [execOp, Act.eval, h1]; go_simp
      try exact tq
    case s29 =>
      refine stepOk_guard [61, 58] [] (by kernel_rfl) 25 true 58 rfl rfl (by simp) true true (fun _ _ h => h) (fun hc => ?_) (fun hc => by cases hc); intro ac W hT hI hO; have h61 : ac.tmps.getD 61 undef = _ := hI 61 (by simp); show Brings Try.prog (fun vv w' => Turned (fun _ => False) W w' ∧ SX t.vars.length vv) _; simp only [execOp, Act.eval, h61]; go_simp; show Calls Try.prog 34 _ W _; refine (varsV34c (HTI7.out W hT) HG.out).mono ?_
      rintro e w' ⟨v, rfl, hv, T'⟩
      exact ⟨_, rfl, T', hv⟩
    case s30 =>
      refine stepOk_guard [62, 58] [] (by kernel_rfl) 25 true 58 rfl rfl (by simp) true true (fun _ _ h => h) (fun hc => ?_) (fun hc => by cases hc); intro ac W hT hI hO; have h62 := hI 62 (by simp); obtain ⟨⟨va, vc⟩, h62⟩ : SX t.vars.length (ac.tmps.getD 62 undef) := h62; show Brings _ (fun v _ => _ ∧ v = _) _; simp only [execOp, Act.eval, h62]; go_simp
      try exact tq
    case s31 =>
      refine stepOk_guard [60, 63, 58] [] (by kernel_rfl) 25 true 58 rfl rfl (by simp) true true (fun _ _ h => h) (fun hc => ?_) (fun hc => by cases hc); intro ac W hT hI hO; have h60 : ac.tmps.getD 60 undef = _ := hI 60 (by simp); have h63 : ac.tmps.getD 63 undef = _ := hI 63 (by simp); show Brings _ (fun v _ => _ ∧ v = _) _; simp only [execOp, Act.eval, h60, h63]; go_simp
      try exact tq
    case s32 =>
      refine stepOk_free [58, 64] [] (by kernel_rfl) rfl ?_; intro ac W hT hI hO; have h58 : ac.tmps.getD 58 undef = _ := hI 58 (by simp); have h64 : ac.tmps.getD 64 undef = _ := hI 64 (by simp); show Brings _ (fun v _ => _ ∧ v = _) _; simp only [execOp, Act.eval, h58, h64]; go_simp
      try exact tq
    case s33 =>
      refine stepOk_free [65] [] (by kernel_rfl) rfl ?_; intro ac W hT hI hO; have h65 : ac.tmps.getD 65 undef = _ := hI 65 (by simp); show Brings _ (fun v _ => _ ∧ v = _) _; simp only [execOp, Act.eval, h65]; go_simp
      try exact tq
    case s34 =>
      refine stepOk_guard [66] [3] (by kernel_rfl) 33 true 66 rfl rfl (by simp) true true (fun _ _ h => h) (fun hc => ?_) (fun hc => by cases hc); intro ac W hT hI hO; have h3 : ac.tmps.getD 3 undef = .pointer (some ⟨w5.heap.size, 0, none⟩) := hO 3 (by simp); show Brings _ (fun v _ => _ ∧ v = _) _; simp only [execOp, Act.eval, h3]; go_simp
      try exact tq
    case s35 =>
      refine stepOk_guard [67, 66] [] (by kernel_rfl) 33 true 66 rfl rfl (by simp) true true (fun _ _ h => h) (fun hc => ?_) (fun hc => by cases hc); intro ac W hT hI hO; have h67 : ac.tmps.getD 67 undef = _ := hI 67 (by simp); show Brings _ (fun v _ => _ ∧ v = _) _; obtain ⟨z0, z1, z2, z3, _⟩ := HC3.out W hT; simp only [execOp, Act.eval, h67]; go_simp
      try exact tq
    case s36 =>
      refine stepOk_guard [66] [1] (by kernel_rfl) 33 true 66 rfl rfl (by simp) true true (fun _ _ h => h) (fun hc => ?_) (fun hc => by cases hc); intro ac W hT hI hO; have h1 : ac.tmps.getD 1 undef = .pointer (some ⟨w.heap.size, 0, none⟩) := hO 1 (by simp); show Brings _ (fun v _ => _ ∧ v = _) _; simp only [execOp, Act.eval, h1]; go_simp
      try exact tq
    case s37 =>
      refine stepOk_guard [69, 66] [] (by kernel_rfl) 33 true 66 rfl rfl (by simp) true true (fun _ _ h => h) (fun hc => ?_) (fun hc => by cases hc); intro ac W hT hI hO; have h69 : ac.tmps.getD 69 undef = _ := hI 69 (by simp); show Brings _ (fun v _ => _ ∧ v = _) _; obtain ⟨k0, k1, k2, k3⟩ := HC1.out W hT; simp only [execOp, Act.eval, h69]; go_simp
      try exact tq
    case s38 =>
      refine stepOk_guard [70, 66] [] (by kernel_rfl) 33 true 66 rfl rfl (by simp) true true (fun _ _ h => h) (fun hc => ?_) (fun hc => by cases hc); intro ac W hT hI hO; have h70 : ac.tmps.getD 70 undef = _ := hI 70 (by simp); show Brings _ (fun v _ => _ ∧ v = _) _; simp only [execOp, Act.eval, h70]; go_simp
      try exact tq
    case s39 =>
      refine stepOk_guard [68, 71, 66] [] (by kernel_rfl) 33 true 66 rfl rfl (by simp) true true (fun _ _ h => h) (fun hc => ?_) (fun hc => by cases hc); intro ac W hT hI hO; have h68 : ac.tmps.getD 68 undef = _ := hI 68 (by simp); have h71 : ac.tmps.getD 71 undef = _ := hI 71 (by simp); show Brings _ (fun v _ => _ ∧ v = _) _; simp only [execOp, Act.eval, h68, h71]; go_simp
      try exact tq
    case s40 =>
      refine stepOk_free [66, 72] [] (by kernel_rfl) rfl ?_; intro ac W hT hI hO; have h66 : ac.tmps.getD 66 undef = _ := hI 66 (by simp); have h72 : ac.tmps.getD 72 undef = _ := hI 72 (by simp); show Brings _ (fun v _ => _ ∧ v = _) _; simp only [execOp, Act.eval, h66, h72]; go_simp
      try exact tq
    case s41 =>
      refine stepOk_free [73] [] (by kernel_rfl) rfl ?_; intro ac W hT hI hO; have h73 : ac.tmps.getD 73 undef = _ := hI 73 (by simp); show Brings _ (fun v _ => _ ∧ v = _) _; simp only [execOp, Act.eval, h73]; go_simp
      try exact tq
  case hQ =>
    intro vs w9 T9 hV; have q2 : vs 2 = .bool true := hV 2 (by simp); simp only [List.foldl_cons, List.foldl_nil, List.setIfInBounds_toArray, List.set_cons_zero, List.set_cons_succ, q2]; have HT9 := hid T9; clear hV q2 T9
    go_wp2_with fail
    go_ret; exact ⟨rfl, (((HT1.out.trans HT6.out).trans HT7.out)).trans HT9.out⟩
theorem codeBack {t : LT} {w : World} (ht : t.In (fun _ => True) w) : Calls Try.prog 20 #[t.val] w fun e w' => e = .returned (.bool true) ∧ Turned (fun _ => False) w w' := by
  rw [LT.val_eq]; exact codeBackA ht
end Go.Proofs.Ytoihjobdfjajfaa
namespace Go.Proofs.Ytoihjobdfjajfaa
open Go.Joins Go.Deep Go.ChangeShapes Go.WideShapes Go.ChangeAt Go.RowKit
theorem cellsOf27 : Try.prog.cellsOf 27 = 4 := by kernel_rfl
theorem cellsOf22 : Try.prog.cellsOf 22 = 1 := by kernel_rfl
theorem cellsOf3 : Try.prog.cellsOf 3 = 1 := by kernel_rfl
theorem cellsOf2 : Try.prog.cellsOf 2 = 1 := by kernel_rfl
theorem cellsOf9 : Try.prog.cellsOf 9 = 1 := by kernel_rfl
theorem I64_of {n : Int} (h : (Lit.int .i64 n).wf = true) : I64 n := by
  unfold I64; simp [Lit.wf] at h
  have e1 : IntKind.i64.min = -9223372036854775808 := by decide
  have e2 : IntKind.i64.max = 9223372036854775807 := by decide
  omega
section
variable {H : Type} {enc : TypeId × Value → H} {W : World} {base : Nat} {sp : Nat → Bool} {held : Bool}
theorem list4 {α : Type} {l : List α} (h : l.length = 4) : ∃ a b c d, l = [a, b, c, d] := by
  match l, h with
  | [a, b, c, d], _ => exact ⟨a, b, c, d, rfl⟩
set_option maxRecDepth 100000 in
theorem terms_of (fuel : Nat) : (∀ cs (x : DataW H × List MemPlace), DataW.trod enc Try.prog W base sp held fuel 27 cs = some x → ∃ t : LT, cs = t.cells ∧ t.In (fun _ => True) W) ∧
    (∀ cs (x : DataW H × List MemPlace), DataW.trod enc Try.prog W base sp held fuel 22 cs = some x → ∃ a cap, ∃ l : List LT, cs = [.slice a l.length cap] ∧ LT.Sl (fun _ => True) W a cap l) := by
  induction fuel with
  | zero => exact ⟨fun cs x h => by simp [DataW.trod] at h, fun cs x h => by simp [DataW.trod] at h⟩
  | succ fuel ih =>
    refine ⟨fun cs x h => ?_, fun cs x h => ?_⟩
    · obtain ⟨xs, n, hn, hx, hcs, hlen, hf⟩ := DataW.trod_struct Try.underlying27 h
      have hn : fuel = n := by omega
      subst hn; rw [cellsOf27] at hcs; obtain ⟨u0, u1, u2, u3, rfl⟩ := list4 hcs; obtain ⟨y0, y1, y2, y3, rfl⟩ := list4 hlen
      · · have f0 : DataW.trod enc Try.prog W base sp held fuel 3 (([u0, u1, u2, u3].drop 0).take (Try.prog.cellsOf 3)) = some y0 := hf 0 _ rfl
          have f1 : DataW.trod enc Try.prog W base sp held fuel 2 (([u0, u1, u2, u3].drop 1).take (Try.prog.cellsOf 2)) = some y1 := hf 1 _ rfl; have f2 : DataW.trod enc Try.prog W base sp held fuel 9 (([u0, u1, u2, u3].drop 2).take (Try.prog.cellsOf 9)) = some y2 := hf 2 _ rfl; have f3 : DataW.trod enc Try.prog W base sp held fuel 22 (([u0, u1, u2, u3].drop 3).take (Try.prog.cellsOf 22)) = some y3 := hf 3 _ rfl; simp only [cellsOf3, cellsOf2, cellsOf9, cellsOf22] at f0 f1 f2 f3; simp at f0 f1 f2 f3; obtain ⟨k, e0, _, wk⟩ := DataW.trod_int Try.underlying3 f0; obtain ⟨m, e1, _, wm⟩ := DataW.trod_int Try.underlying2 f1; obtain ⟨s, e2, _, ws⟩ := DataW.trod_string Try.underlying9 f2; obtain ⟨a, cap, l, e3, hl⟩ := ih.2 _ _ f3; simp at e0 e1 e2 e3; subst e0 e1 e2 e3; exact ⟨.mk k m s (a, cap) l, rfl, hl.in_ (I64_of wk) (I64_of wm) ws⟩
    · rcases DataW.trod_slice Try.underlying22 h with ⟨hcs, _⟩ | ⟨ad, len, cap, elems, rest, n, hn, hcs, _, _, hl, hm, hlen, hel, _⟩
      · exact ⟨none, 0, [], hcs, ⟨fun _ => ⟨rfl, rfl⟩, fun h => by simp at h, trivial, Nat.le_refl _, by unfold maxLen; omega⟩⟩
      · have hn : fuel = n := by omega
        subst hn; rw [cellsOf27] at hel
        have hp : ∀ i, ∃ t : LT, i < len → t.In (fun _ => True) W ∧ ∀ j, j < 4 → W.cell? (ad.add (i * 4 + j)) = t.cells[j]? := by
          intro i
          by_cases hi : i < len
          · have he := hel i hi
            rw [List.getElem?_eq_getElem (by omega)] at he; obtain ⟨cs', hc, ht⟩ := Option.bind_eq_some_iff.1 he; obtain ⟨t, rfl, hin⟩ := ih.1 _ _ ht; obtain ⟨_, _, hat⟩ := World.cells?_some hc; refine ⟨t, fun _ => ⟨hin, fun j hj => ?_⟩⟩; rw [← hat j hj]; congr 1; exact (add_add ..).symm
          · exact ⟨.mk 0 0 ByteArray.empty (none, 0) [], fun h => absurd h hi⟩
        obtain ⟨f, hff⟩ := Classical.axiomOfChoice hp; refine ⟨some ad, cap, (List.range len).map f, by simpa using hcs, ⟨(fun e => by cases e), fun hpos => ?_, (LT.ins_iff _).2 fun x hx => ?_, by simpa using hl, hm⟩⟩
        · simp at hpos
          obtain ⟨b, o, spot⟩ := ad; have hc := (hff 0 (by omega)).2 0 (by omega)
          have hspot : spot = none := by
            rw [LT.cells_eq] at hc; simpa [Addr.add] using World.cell?_spot hc
          subst hspot; refine ⟨b, o, rfl, trivial, fun j u hu => ?_⟩; have hlt := (List.getElem?_eq_some_iff.1 hu).1; rw [LT.flat_length, List.length_map, List.length_range] at hlt
          have hi : j / 4 < len := by omega
          have hx : ((List.range len).map f)[j / 4]? = some (f (j / 4)) := by rw [List.getElem?_map, List.getElem?_range hi]; rfl
          have h4 := LT.flat_at hx (j % 4) (by omega); rw [show j / 4 * 4 + j % 4 = j by omega, hu] at h4; have hc := (hff (j / 4) hi).2 (j % 4) (by omega); rw [show j / 4 * 4 + j % 4 = j by omega, Addr.add_lit] at hc; rw [hc, h4]
        · obtain ⟨i, hi, rfl⟩ := List.mem_map.1 hx
          exact (hff i (by simpa using hi)).1
set_option maxRecDepth 100000 in
theorem tmT_of {fuel : Nat} {r : Reach} {b0 : Nat} {v : Value} {x : DataW H × List MemPlace} (hv : Value.okWide Try.prog W r b0 27 v) (hf : DataW.trod enc Try.prog W base sp held fuel 27 v.cells.toList = some x) : ∃ t : LT, v = t.val ∧ t.In (fun _ => True) W := by
  obtain ⟨cs, rfl, hsz⟩ := okWide_struct Try.underlying27 hv; obtain ⟨t, hcs, hin⟩ := (terms_of fuel).1 _ _ hf; refine ⟨t, ?_, hin⟩
  cases t with | mk k n s e bs =>
  simp only [Value.cells] at hcs; show Value.agg cs = Value.agg _; congr 1; exact Array.toList_inj.1 hcs
end
end Go.Proofs.Ytoihjobdfjajfaa
