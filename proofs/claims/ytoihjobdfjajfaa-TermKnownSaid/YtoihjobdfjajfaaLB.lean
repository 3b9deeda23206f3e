/- term.List: Backward's contract as an iterator. -/
import Derived.Test.YtoihjobdfjajfaaMade
import Derived.RangeFuncWrites
import Derived.RangeFuncLeaves
import Derived.RangeFuncCalls
import Derived.Shelf.Abstract
import Derived.OwnWalkIn
import Derived.TacticsInMore
import Derived.LoopNIn
import Derived.LoopIn
namespace Go.Proofs.Ytoihjobdfjajfaa
set_option linter.unusedVariables false
set_option linter.unusedSimpArgs false
open Go.RowKit Go.Shelf
attribute [local go_sem] Oper.semAt_some

/-- What a round of the body keeps: all that lay below n₀, but the block b3. -/
def KpB (n₀ b3 : Nat) (A B : World) : Prop := Turned (fun k => n₀ ≤ k ∨ k = b3) A B
theorem kpB_t {n₀ b3 : Nat} {A B C : World} (h : KpB n₀ b3 A B) (k : KpB n₀ b3 B C) : KpB n₀ b3 A C := Turned.trans h k
theorem kpB_b {n₀ b3 : Nat} {w : World} (hn : n₀ ≤ w.heap.size) (W : World) (l : Nat) (o o' : Obj) (hl : w.heap.size ≤ l) (h : W.heap[l]? = some o) (_ : o.isCells = false) (_ : o.isWalk = false) : KpB n₀ b3 W (W.putObj l o') :=
  Turned.grown (Turned.refl _ W) (grownBy_putObj' W l o') (fun k e => by cases e; exact .inr (.inl (by omega)))

/-- A term that is nothing: what is told of a place beyond the slice's end (never told). -/
def noT : LT := .mk 0 0 ByteArray.empty (none, 0) []
theorem noT_in {p : Nat → Prop} {w : World} : noT.In p w := LT.In.mk (i64_lit 0 (by omega)) (i64_lit 0 (by omega)) (by unfold maxLen; decide) (Nat.le_refl _) (by unfold maxLen; omega) (fun _ => ⟨rfl, rfl⟩) (fun h => absurd h (by decide)) trivial
theorem back_take {n q : Nat} (h : q < n) : (List.range n).reverse.take (n - q) = (List.range n).reverse.take (n - (q + 1)) ++ [q] := by
  have e : n - q = (n - (q + 1)) + 1 := by omega
  have hx : (List.range n).reverse[n - (q + 1)]? = some q := by
    rw [List.getElem?_reverse (by rw [List.length_range]; omega), List.length_range]
    have e2 : n - 1 - (n - (q + 1)) = q := by omega
    rw [e2, List.getElem?_range h]
  rw [e, List.take_add_one, hx]
  rfl

set_option maxRecDepth 100000 in
set_option maxHeartbeats 1000000 in
theorem bk163 (F : Fence) (n : Nat) (hf : F.fn 163) (hro : F.round = none) (hn : 1 ≤ n) (lp Bn n₀ b3 : Nat) {a : Option Addr} {c : Nat} {l : List LT} (J Jx : List Nat → World → Prop)
    (hY : ∀ (pre : List Nat) (x : Nat) W, J pre W → pre.length < l.length → YieldAt F (n - 1) Try.prog lp #[.int .i64 x, (l.getD x noT).val] W fun e W' =>
      (e = .returned (.bool true) ∧ J (pre ++ [x]) W' ∧ KpB n₀ b3 W W') ∨ (e = .returned (.bool false) ∧ Jx (pre ++ [x]) W'))
    (W : World) (hBn : W.cell? ⟨Bn, 0, none⟩ = some (.slice a l.length c)) (hBl : Bn < n₀ ∧ Bn ≠ b3) (hL : LT.Sl (fun k => k < n₀ ∧ k ≠ b3) W a c l) (h0 : J [] W) :
    CallsIn F n Try.prog 163 #[.func (.yield lp) #[] #[], .pointer (some ⟨Bn, 0, none⟩)] W fun e W' => (∃ v, e = .returned v) ∧
      ((∃ ys, ys = (List.range l.length).reverse ∧ J ys W') ∨ (∃ pre, True ∧ Jx pre W')) := by
  have hc1 := hL.cap
  have hc2 := hL.max
  unfold maxLen at hc2
  refine callsIn_of_wp Try.func163 rfl hf ?_ hro
  simp only [Try.ntmps163, List.size_toArray, List.length_cons, List.length_nil, Nat.reduceAdd, Nat.reduceSub, Array.replicate_succ, Array.replicate_zero, List.push_toArray, List.append_toArray, List.nil_append, List.cons_append]
  gi_wp2
  gi_loopw [3] (fun i wr => ∃ r : Nat, r ≤ l.length ∧ i = .int .i64 ((r : Int) - 1) ∧ Hid (J ((List.range l.length).reverse.take (l.length - r)) wr ∧ wr.cell? ⟨Bn, 0, none⟩ = some (.slice a l.length c) ∧ LT.Sl (fun k => k < n₀ ∧ k ≠ b3) wr a c l))
    (fun i wr => match i with | .int _ k => (k + 1).toNat | _ => 0)
  case atStart =>
    exact ⟨l.length, Nat.le_refl _, rfl, by rw [Nat.sub_self]; exact h0, hBn, hL⟩
  case round =>
    obtain ⟨r, hr, rfl, HR⟩ := hrel
    obtain ⟨HJ, hb, hs⟩ := HR.out
    cases r with
    | zero =>
      have hneg : decide ((0 : Int) ≤ ((0 : Nat) : Int) - 1) = false := by decide
      gi_wp2
      go_end0
      refine ⟨⟨_, rfl⟩, .inl ⟨_, rfl, ?_⟩⟩
      rw [Nat.sub_zero, show ((List.range l.length).reverse.take l.length) = (List.range l.length).reverse from List.take_of_length_le (by rw [List.length_reverse, List.length_range]; omega)] at HJ
      exact HJ
    | succ q =>
      have e : (((q + 1 : Nat)) : Int) - 1 = (q : Int) := by omega
      rw [e]
      have hql : q < l.length := by omega
      have hx : l[q]? = some l[q] := List.getElem?_eq_getElem hql
      obtain ⟨x, hxe⟩ : ∃ x, x = l[q] := ⟨_, rfl⟩
      rw [← hxe] at hx
      clear hxe e
      obtain ⟨b, o, rfl, hp, c0, c1, c2, c3⟩ := LT.Lies.cell hs.lies hx
      have hlen : ((List.range l.length).reverse.take (l.length - (q + 1))).length < l.length := by rw [List.length_take, List.length_reverse, List.length_range]; omega
      obtain ⟨fn, tmps, assign, body, hy, hR⟩ := hY _ q wr HJ hlen
      have hg : l.getD q noT = x := by rw [List.getD_eq_getElem?_getD, hx]; rfl
      rw [hg, LT.val_eq] at hy
      have HX := Lib.hid hx
      have HS := Lib.hid hs
      clear hx hlen hg HR hs
      gi_wp2
      refine hR.mono ?_
      rintro e W3 (⟨rfl, hJ3, hk3⟩ | ⟨rfl, hJx3⟩)
      · gi_wp2
        go_roundw
        case rel =>
          refine ⟨q, by omega, by go_num, ?_, ?_, ?_⟩
          · rw [back_take hql]; exact hJ3
          · exact Turned.cell hk3 hb (fun h => h.elim (fun h1 => by have h2 : n₀ ≤ Bn := h1; omega) hBl.2)
          · exact HS.out.turned hk3 (fun k _ hp h => h.elim (fun h1 => by have := hp.1; omega) hp.2) (fun k _ hp => hp)
        case measure => simp
      · gi_wp2
        refine bodyPost_ret (results_none rfl _ _ _) rfl ?_
        exact ⟨⟨_, rfl⟩, .inr ⟨_, trivial, hJx3⟩⟩
end Go.Proofs.Ytoihjobdfjajfaa
