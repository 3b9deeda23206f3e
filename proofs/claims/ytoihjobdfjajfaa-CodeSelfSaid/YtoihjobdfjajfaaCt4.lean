/- Merged texts: BU3, BU4, MP1, MP2, BL1, BV1, CB2, MA1, DB1, DB2, DB3, DB4, DB5, DB6, DP1, DL1, UB1, UM2, MA2, MA3, MA4, MA5, MA6, MA7, BX1, CB3, CB4. -/
import Derived.Test.YtoihjobdfjajfaaCt3
import Derived.Laws.CopyRow
set_option linter.unusedVariables false
set_option linter.unusedSimpArgs false
namespace Go.Proofs.Ytoihjobdfjajfaa
open Lib (hid)
open Go.RowKit Go.Maps
def pairsT (st : List PT) : List (Tm Unit × Tm Unit) := st.reverse.map fun q => (q.1.bare, q.2.bare)
theorem pairsT_snoc (ss : List PT) (q : PT) : pairsT (ss ++ [q]) = (q.1.bare, q.2.bare) :: pairsT ss := by unfold pairsT; rw [List.reverse_append]; rfl
theorem pairsT_args (ss qs : List PT) : pairsT (ss ++ qs.reverse) = qs.map (fun q => (q.1.bare, q.2.bare)) ++ pairsT ss := by
  unfold pairsT; rw [List.reverse_append, List.reverse_reverse, List.map_append]
theorem PT.flat_at {l : List PT} {i : Nat} {q : PT} (h : l[i]? = some q) (j : Nat) (hj : j < 8) : (l.flatMap PT.cells)[i * 8 + j]? = (PT.cells q)[j]? := by
  induction l generalizing i with
  | nil => simp at h
  | cons y l ih =>
    rw [List.flatMap_cons]
    cases i with
    | zero =>
      simp at h; subst h; rw [List.getElem?_append_left (by rw [PT.cells_length]; omega), Nat.zero_mul, Nat.zero_add]
    | succ i =>
      simp at h; rw [List.getElem?_append_right (by rw [PT.cells_length]; omega), PT.cells_length]
      have : (i + 1) * 8 + j - 8 = i * 8 + j := by omega
      rw [this]; exact ih h
theorem PT.cells_eq (q : PT) : PT.cells q = [.int .i64 q.1.kind, .int .i64 q.1.n, .string q.1.name, .slice q.1.at_.1 q.1.args.length q.1.at_.2, .int .i64 q.2.kind, .int .i64 q.2.n, .string q.2.name, .slice q.2.at_.1 q.2.args.length q.2.at_.2] := by unfold PT.cells; rw [LT.cells_eq, LT.cells_eq]; rfl
theorem turned8 (W : World) (B : Nat) (a b c d e f g h : Value) : Turned (fun k => k = B) W ((((((((W.setCell ⟨B, 0, none⟩ a).setCell ⟨B, 1, none⟩ b).setCell ⟨B, 2, none⟩ c).setCell ⟨B, 3, none⟩ d).setCell ⟨B, 4, none⟩ e).setCell ⟨B, 5, none⟩ f).setCell ⟨B, 6, none⟩ g).setCell ⟨B, 7, none⟩ h) :=
  ((((((((Turned.refl (fun k => k = B) W).setCell (p := ⟨B, 0, none⟩) (.inr rfl) _).setCell (p := ⟨B, 1, none⟩) (.inr rfl) _).setCell (p := ⟨B, 2, none⟩) (.inr rfl) _).setCell (p := ⟨B, 3, none⟩) (.inr rfl) _).setCell (p := ⟨B, 4, none⟩) (.inr rfl) _).setCell (p := ⟨B, 5, none⟩) (.inr rfl) _).setCell (p := ⟨B, 6, none⟩) (.inr rfl) _).setCell (p := ⟨B, 7, none⟩) (.inr rfl) _
theorem set8 {W : World} {B : Nat} {T : TypeId} {a b c d e f g h a' b' c' d' e' f' g' h' : Value} (hb : W.heap[B]? = some (.cells #[a, b, c, d, e, f, g, h] T (0, 0))) :
    ((((((((W.setCell ⟨B, 0, none⟩ a').setCell ⟨B, 1, none⟩ b').setCell ⟨B, 2, none⟩ c').setCell ⟨B, 3, none⟩ d').setCell ⟨B, 4, none⟩ e').setCell ⟨B, 5, none⟩ f').setCell ⟨B, 6, none⟩ g').setCell ⟨B, 7, none⟩ h').heap[B]? = some (.cells #[a', b', c', d', e', f', g', h'] T (0, 0)) := by
  have h0 := heap_setCell_same W B 0 _ T a' hb; have h1 := heap_setCell_same _ B 1 _ T b' h0; have h2 := heap_setCell_same _ B 2 _ T c' h1; have h3 := heap_setCell_same _ B 3 _ T d' h2; have h4 := heap_setCell_same _ B 4 _ T e' h3; have h5 := heap_setCell_same _ B 5 _ T f' h4; have h6 := heap_setCell_same _ B 6 _ T g' h5; have h7 := heap_setCell_same _ B 7 _ T h' h6; simpa using h7
theorem cells8 {W : World} {B : Nat} {T : TypeId} {a b c d e f g h : Value} (hb : W.heap[B]? = some (.cells #[a, b, c, d, e, f, g, h] T (0, 0))) :
    (W.cell? ⟨B, 0, none⟩ = some a ∧ W.cell? ⟨B, 1, none⟩ = some b ∧ W.cell? ⟨B, 2, none⟩ = some c ∧ W.cell? ⟨B, 3, none⟩ = some d ∧ W.cell? ⟨B, 4, none⟩ = some e ∧ W.cell? ⟨B, 5, none⟩ = some f ∧ W.cell? ⟨B, 6, none⟩ = some g ∧ W.cell? ⟨B, 7, none⟩ = some h) ∧
    W.frozen? ⟨B, 0, none⟩ = false ∧ W.frozen? ⟨B, 1, none⟩ = false ∧ W.frozen? ⟨B, 2, none⟩ = false ∧ W.frozen? ⟨B, 3, none⟩ = false ∧ W.frozen? ⟨B, 4, none⟩ = false ∧ W.frozen? ⟨B, 5, none⟩ = false ∧ W.frozen? ⟨B, 6, none⟩ = false ∧ W.frozen? ⟨B, 7, none⟩ = false := by
  refine ⟨⟨?_, ?_, ?_, ?_, ?_, ?_, ?_, ?_⟩, ?_, ?_, ?_, ?_, ?_, ?_, ?_, ?_⟩
  · rw [cell_of_row W B 0 _ T (0, 0) hb]; rfl
  · rw [cell_of_row W B 1 _ T (0, 0) hb]; rfl
  · rw [cell_of_row W B 2 _ T (0, 0) hb]; rfl
  · rw [cell_of_row W B 3 _ T (0, 0) hb]; rfl
  · rw [cell_of_row W B 4 _ T (0, 0) hb]; rfl
  · rw [cell_of_row W B 5 _ T (0, 0) hb]; rfl
  · rw [cell_of_row W B 6 _ T (0, 0) hb]; rfl
  · rw [cell_of_row W B 7 _ T (0, 0) hb]; rfl
  all_goals exact frozen_of_row W B _ _ T hb
theorem UK.last {p O : Nat → Prop} {bb K m g n cap : Nat} {ss : List PT} {q : PT} {c : Int} {l : TL} {w : World} (h : UK p bb K (.slice (some ⟨g, 0, none⟩) n cap) (ss ++ [q]) c O m l w) :
    n = ss.length + 1 ∧ ss.length + 1 ≤ cap ∧ cap ≤ maxLen ∧ (w.cell? ⟨g, ss.length * 8, none⟩ = some (.int .i64 q.1.kind) ∧ w.cell? ⟨g, ss.length * 8 + 1, none⟩ = some (.int .i64 q.1.n) ∧ w.cell? ⟨g, ss.length * 8 + 2, none⟩ = some (.string q.1.name) ∧ w.cell? ⟨g, ss.length * 8 + 3, none⟩ = some (.slice q.1.at_.1 q.1.args.length q.1.at_.2)) ∧
    w.cell? ⟨g, ss.length * 8 + 4, none⟩ = some (.int .i64 q.2.kind) ∧ w.cell? ⟨g, ss.length * 8 + 5, none⟩ = some (.int .i64 q.2.n) ∧ w.cell? ⟨g, ss.length * 8 + 6, none⟩ = some (.string q.2.name) ∧ w.cell? ⟨g, ss.length * 8 + 7, none⟩ = some (.slice q.2.at_.1 q.2.args.length q.2.at_.2) := by
  have hr := h.row
  have hn : n = ss.length + 1 := by
    rcases hr.2 with ⟨e, _⟩ | ⟨g', c', cur, e, _⟩
    · cases e
    · injection e with _ e _; simp at e; exact e
  subst hn
  have hcap : ss.length + 1 ≤ cap ∧ cap ≤ maxLen := by
    rcases hr.2 with ⟨e, _⟩ | ⟨g', c', cur, e, _, h1, h2, _⟩
    · cases e
    · injection e with _ _ e; subst e; simp at h1; omega
  have hr' : Row w 187 8 (.slice (some ⟨g, 0, none⟩) (ss.length + 1) cap) (ss.length + 1) ((ss ++ [q]).flatMap PT.cells) := by simpa using hr
  have hi : (ss ++ [q])[ss.length]? = some q := by simp
  refine ⟨rfl, hcap.1, hcap.2, ⟨hr'.cells rfl _ _ ?_, hr'.cells rfl _ _ ?_, hr'.cells rfl _ _ ?_, hr'.cells rfl _ _ ?_⟩, hr'.cells rfl _ _ ?_, hr'.cells rfl _ _ ?_, hr'.cells rfl _ _ ?_, hr'.cells rfl _ _ ?_⟩
  · have := PT.flat_at hi 0 (by omega); rw [Nat.add_zero] at this; rw [this, PT.cells_eq]; rfl
  all_goals (rw [PT.flat_at hi _ (by omega), PT.cells_eq]; rfl)
theorem UK.popc {p O : Nat → Prop} {bb K m g n cap : Nat} {ss : List PT} {q : PT} {c : Int} {l : TL} {w : World} (h : UK p bb K (.slice (some ⟨g, 0, none⟩) n cap) (ss ++ [q]) c O m l w) (c' : Int) :
    UK p bb K (.slice (some ⟨g, 0, none⟩) ss.length cap) ss c' O m l ((w.setCell ⟨K, 1, none⟩ (.slice (some ⟨g, 0, none⟩) ss.length cap)).setCell ⟨K, 2, none⟩ (.int .i64 c')) ∧ Turned (fun k => k = K) w ((w.setCell ⟨K, 1, none⟩ (.slice (some ⟨g, 0, none⟩) ss.length cap)).setCell ⟨K, 2, none⟩ (.int .i64 c')) := by
  obtain ⟨hn, h1, h2, _⟩ := h.last; subst hn; have T : Turned (fun k => k = K) w (w.setCell ⟨K, 1, none⟩ (.slice (some ⟨g, 0, none⟩) ss.length cap)) := (Turned.refl (fun k => k = K) w).setCell (p := ⟨K, 1, none⟩) (.inr rfl) _
  have hp : ∀ q : LT, q.In p w → q.In p (w.setCell ⟨K, 1, none⟩ (.slice (some ⟨g, 0, none⟩) ss.length cap)) := fun q hq => LT.In.turned T (fun k _ hk e => h.kO.2 (e ▸ hk)) (fun _ _ hk => hk) q hq
  have hr' : Row w 187 8 (.slice (some ⟨g, 0, none⟩) (ss.length + 1) cap) (ss.length + 1) ((ss ++ [q]).flatMap PT.cells) := by simpa using h.row
  have ht := hr'.take (m := ss.length) (c := cap) (by omega) (by omega) (Nat.le_refl _); rw [List.flatMap_append, List.take_left' (by rw [PT.flat_length])] at ht
  have h1 : UK p bb K (.slice (some ⟨g, 0, none⟩) ss.length cap) ss c O m l (w.setCell ⟨K, 1, none⟩ (.slice (some ⟨g, 0, none⟩) ss.length cap)) := by
    refine ⟨h.bo.turned T (fun k hk e => ⟨fun c => h.kO.1 (e ▸ c), fun c => h.kO.2 (e ▸ c)⟩), ?_, ht.turned T (fun k hk e => (h.vO k (by simpa [Value.ownBlock] using hk)).2.2 e), fun q' hq => ?_, h.kO, fun g' hg => h.vO g' (by simpa [Value.ownBlock] using hg)⟩
    · have := heap_setCell_same w K 1 _ 190 (.slice (some ⟨g, 0, none⟩) ss.length cap) h.k
      simpa using this
    · have hm := h.mem q' (List.mem_append_left _ hq)
      exact ⟨⟨hp _ hm.1.1, hm.1.2⟩, hp _ hm.2.1, hm.2.2⟩
  obtain ⟨h3, T3⟩ := h1.cost c'; exact ⟨h3, T.trans T3⟩
def BxS (q : PT) (wr : World) : List Value → World → Prop
  | [], W => Turned (fun _ => False) wr W
  | [b], W => Turned (fun _ => False) wr W ∧ ∃ B a0 a1 a2 a3 a4 a5 a6 a7, b = .pointer (some ⟨B, 0, none⟩) ∧ wr.heap.size ≤ B ∧ W.heap[B]? = some (.cells #[a0, a1, a2, a3, a4, a5, a6, a7] 187 (0, 0))
  | [b, _], W => Turned (fun _ => False) wr W ∧ ∃ B, b = .pointer (some ⟨B, 0, none⟩) ∧ wr.heap.size ≤ B ∧ W.heap[B]? = some (.cells #[.int .i64 q.1.kind, .int .i64 q.1.n, .string q.1.name, .slice q.1.at_.1 q.1.args.length q.1.at_.2, .int .i64 q.2.kind, .int .i64 q.2.n, .string q.2.name, .slice q.2.at_.1 q.2.args.length q.2.at_.2] 187 (0, 0))
  | _, _ => False
theorem BxS.turned0 {q : PT} {wr : World} : ∀ (hs : List Value) (w w' : World), BxS q wr hs w → Turned (fun _ => False) w w' → BxS q wr hs w'
  | [], _, _, h, T => Turned.trans h T
  | [_], _, _, ⟨h1, B, a0, a1, a2, a3, a4, a5, a6, a7, h2, h3, h4⟩, T => ⟨h1.trans T, B, a0, a1, a2, a3, a4, a5, a6, a7, h2, h3, (T.block _ (Array.getElem?_eq_some_iff.1 h4).1 (fun f => f)).trans h4⟩
  | [_, _], _, _, ⟨h1, B, h2, h3, h4⟩, T => ⟨h1.trans T, B, h2, h3, (T.block _ (Array.getElem?_eq_some_iff.1 h4).1 (fun f => f)).trans h4⟩
  | _ :: _ :: _ :: _, _, _, h, _ => h.elim
theorem BxS.turned {q : PT} {wr : World} : ∀ (hs : List Value) (W : World), BxS q wr hs W → Turned (fun _ => False) wr W
  | [], _, h => h
  | [_], _, h => h.1
  | [_, _], _, h => h.1
  | _ :: _ :: _ :: _, _, h => h.elim
structure AllI (p : Nat → Prop) (bb K : Nat) (v0 : Value) (O0 : Nat → Prop) (m : Nat) (l0 : TL) (U : Tm.UR) (w0 : World) (v : Value) (st : List PT) (c : Nat) (O : Nat → Prop) (l : TL) (wr : World) : Prop where
  uk : UK p bb K v st c O m l wr
  c2 : c ≤ 2000
  len : st.length ≤ 1 + 8 * c
  pre : ∃ a, bt l = a ++ bt l0
  same : Tm.unify (bt l) (2000 - c) (pairsT st) = U
  own : ∀ k, ownU K v O k → k < w0.heap.size → ownU K v0 O0 k
  ownO : ∀ k, O k → k < w0.heap.size → O0 k
  turned : Turned (ownU K v0 O0) w0 wr
def AllQ (p : Nat → Prop) (bb K : Nat) (v0 : Value) (O0 : Nat → Prop) (m : Nat) (l0 : TL) (w0 : World) : Tm.UR → Ending → World → Prop
  | .ok l' left', e, w' => e = .returned (.tuple #[.bool true, .int .i64 0]) ∧ ∃ v st O l, bt l = l' ∧ UK p bb K v st (2000 - (left' : Int)) O m l w' ∧ (∀ k, O k → k < w0.heap.size → O0 k) ∧ Turned (ownU K v0 O0) w0 w'
  | .no q, e, w' => e = .returned (.tuple #[.bool false, .int .i64 0]) ∧ ∃ v st O l, (∃ a, bt l = a ++ bt l0) ∧ UK p bb K v st (2000 - (q : Int)) O m l w' ∧ (∀ k, O k → k < w0.heap.size → O0 k) ∧ Turned (ownU K v0 O0) w0 w'
  | .over, e, w' => e = .returned (.tuple #[.bool false, .int .i64 12]) ∧ ∃ v st c O l, (∃ a, bt l = a ++ bt l0) ∧ UK p bb K v st c O m l w' ∧ (∀ k, O k → k < w0.heap.size → O0 k) ∧ Turned (ownU K v0 O0) w0 w'
section
variable {p O0 O : Nat → Prop} {bb K m : Nat} {v0 v : Value} {st : List PT} {c : Nat} {l0 l : TL} {U : Tm.UR} {w0 wr w5 w6 w' : World}
theorem AllI.far {O' : Nat → Prop} {v' : Value} (h : AllI p bb K v0 O0 m l0 U w0 v st c O l wr) (T5 : Turned (fun _ => False) wr w5) (T6 : Turned (fun k => k = K) w5 w6) (T : Turned (ownU K v' O) w6 w') (hv : ∀ k, v'.ownBlock = some k → v.ownBlock = some k) (hO : ∀ k, O' k → k < w6.heap.size → O k) :
    (∀ k, O' k → k < w0.heap.size → O0 k) ∧ Turned (ownU K v0 O0) w0 w' ∧ w0.heap.size ≤ w6.heap.size := by
  have hs : w0.heap.size ≤ w6.heap.size := by have := h.turned.size; have := T5.size; have := T6.size; omega
  refine ⟨fun k hk hl => h.ownO k (hO k hk (Nat.lt_of_lt_of_le hl hs)) hl, ?_, hs⟩; have R5 := h.turned.trans (T5.mono (fun _ _ f => f.elim)); have R6 := R5.step T6 (fun i hi e => .inl e); exact R6.step T (fun i hi e => h.own i (e.elim .inl (fun e => e.elim (fun e => .inr (.inl (hv i e))) (fun e => .inr (.inr e)))) hi)
set_option maxRecDepth 100000 in
set_option maxHeartbeats 12800000 in
theorem all153 {w : World} (h : UK p bb K v st c O m l w) (hc : c ≤ 2000) (hl : st.length ≤ 1 + 8 * c) :
    Calls Try.prog 153 #[.pointer (some ⟨K, 0, none⟩)] w (AllQ p bb K v O m l w (Tm.unify (bt l) (2000 - c) (pairsT st))) := by
  obtain ⟨U, hU⟩ : ∃ z, z = Tm.unify (bt l) (2000 - c) (pairsT st) := ⟨_, rfl⟩; rw [← hU]; have hinit : Hid (AllI p bb K v O m l U w v st c O l w) := ⟨h, hc, hl, ⟨[], rfl⟩, hU.symm, fun _ hk _ => hk, fun _ hk _ => hk, Turned.refl _ _⟩; clear h hl hU; go_enter Try.func153, Try.ntmps153
  go_wp2_with fail
  go_loopg [] (2000 - c) (fun k wr => ∃ v' st' c' O' l', Hid (c' + k = 2000) ∧ Hid (AllI p bb K v O m l U w v' st' c' O' l' wr))
  case atStart => exact ⟨v, st, c, O, l, show _ = _ by omega, hinit⟩
  case round =>
    obtain ⟨v1, st1, c1, O1, l1, HG, HI⟩ := hrel; obtain ⟨k0, k1, k2, kf1, kf2⟩ := HI.out.uk.kcells
    rcases List.eq_nil_or_concat st1 with rfl | ⟨ss, q, rfl⟩
    · obtain ⟨a, cap, rfl⟩ := HI.out.uk.row.shape
      have hu : U = .ok (bt l1) (2000 - c1) := HI.out.same.symm; have HE := hid hu; clear hu
      go_wp2_with fail
      go_ret2
      rw [HE.out]; have huk := HI.out.uk; rw [show (c1 : Int) = 2000 - ((2000 - c1 : Nat) : Int) from by have := HI.out.c2; omega] at huk; exact ⟨rfl, .slice a ([] : List PT).length cap, [], O1, l1, rfl, huk, HI.out.ownO, HI.out.turned⟩
    · rw [List.concat_eq_append] at HI
      obtain ⟨g, cap, rfl⟩ := HI.out.uk.row.shape_pos (by simp); obtain ⟨hn1, hc1, hc2, _⟩ := HI.out.uk.last
      have hcm : cap ≤ 9223372036854775807 := by unfold maxLen at hc2; exact hc2
      have hss : ss.length ≤ 16001 := by have h1 := HI.out.len; have h2 := HI.out.c2; rw [List.length_append, List.length_singleton] at h1; omega
      rw [List.length_append, List.length_singleton] at k1
      have HKW : Hid (∀ W, Turned (fun _ => False) wr W → W.cell? ⟨K, 0, none⟩ = some (.pointer (some ⟨bb, 0, none⟩)) ∧ W.cell? ⟨K, 1, none⟩ = some (.slice (some ⟨g, 0, none⟩) (ss.length + 1) cap) ∧ W.cell? ⟨K, 2, none⟩ = some (.int .i64 c1) ∧ W.frozen? ⟨K, 1, none⟩ = false ∧ W.frozen? ⟨K, 2, none⟩ = false) := fun W T => by
        have := (HI.out.uk.turned0 T).kcells; rw [List.length_append, List.length_singleton] at this; exact this
      have HLW := hid (fun W (T : Turned (fun _ => False) wr W) => (HI.out.uk.turned0 T).last.2.2.2); clear hn1
      go_wp2_with fail
      refine wp_region_hsW [13, 14, 15, 16, 17, 18, 19, 20, 21, 22, 23, 24, 4] [12, 13] [1, 1, 1, 1, 1, 1, 1, 1, 1, 1, 1, 1, 1, 2] [4, 100013] (fun dd vv => (match dd with | 13 => vv = .pointer (some ⟨K, 0, none⟩) | 14 => vv = .pointer (some ⟨K, 0, none⟩) | 15 => vv = .pointer (some ⟨K, 1, none⟩) | 16 => vv = .slice (some ⟨g, 0, none⟩) (ss.length + 1) cap | 17 => vv = .pointer (some ⟨K, 0, none⟩) | 18 => vv = .pointer (some ⟨K, 0, none⟩) | 19 => vv = .pointer (some ⟨K, 1, none⟩) | 20 => vv = .slice (some ⟨g, 0, none⟩) (ss.length + 1) cap | 21 => vv = .int .i64 ((ss.length : Int) + 1) | 22 => vv = .int .i64 ss.length | 23 => vv = .pointer (some ⟨g, ss.length * 8, none⟩) | 24 => vv = .agg #[.int .i64 q.1.kind, .int .i64 q.1.n, .string q.1.name, .slice q.1.at_.1 q.1.args.length q.1.at_.2, .int .i64 q.2.kind, .int .i64 q.2.n, .string q.2.name, .slice q.2.at_.1 q.2.args.length q.2.at_.2] | _ => True : Prop)) (BxS q wr) (by kernel_rfl) rfl (by kernel_rfl) (by kernel_rfl) (by kernel_rfl) (by kernel_rfl) (fun w h => h) (fun hs w w' h T => BxS.turned0 hs w w' h T) ?hs ?hQ
      case hs =>
        refine ⟨?s0, ?s1, ?s2, ?s3, ?s4, ?s5, ?s6, ?s7, ?s8, ?s9, ?s10, ?s11, ?s12, ?s13, trivial⟩
        case s0 =>
          refine fun hs hle => stepG_free [] [0] (by kernel_rfl) rfl ?_
          intro ac W hT hI hO; have hle : hs.length ≤ 1 := hle; have h0 : ac.tmps.getD 0 undef = .pointer (some ⟨K, 0, none⟩) := hO 0 (by simp); show Brings _ (fun v _ => _ ∧ v = _) _; simp only [execOp, Act.eval, h0]; go_simp
          try exact tq
        case s1 =>
          refine fun hs hle => stepG_free [13] [] (by kernel_rfl) rfl ?_
          intro ac W hT hI hO; have hle : hs.length ≤ 1 := hle; have h13 : ac.tmps.getD 13 undef = _ := hI 13 (by simp); show Brings _ (fun v _ => _ ∧ v = _) _; obtain ⟨k0, k1, k2, kf1, kf2⟩ := HKW.out W (BxS.turned hs W hT); simp only [execOp, Act.eval, h13]; go_simp
          try exact tq
        case s2 =>
          refine fun hs hle => stepG_free [14] [] (by kernel_rfl) rfl ?_
          intro ac W hT hI hO; have hle : hs.length ≤ 1 := hle; have h14 : ac.tmps.getD 14 undef = _ := hI 14 (by simp); show Brings _ (fun v _ => _ ∧ v = _) _; simp only [execOp, Act.eval, h14]; go_simp
          try exact tq
        case s3 =>
          refine fun hs hle => stepG_free [15] [] (by kernel_rfl) rfl ?_
          intro ac W hT hI hO; have hle : hs.length ≤ 1 := hle; have h15 : ac.tmps.getD 15 undef = _ := hI 15 (by simp); show Brings _ (fun v _ => _ ∧ v = _) _; obtain ⟨k0, k1, k2, kf1, kf2⟩ := HKW.out W (BxS.turned hs W hT); simp only [execOp, Act.eval, h15]; go_simp
          try exact tq
        case s4 =>
          refine fun hs hle => stepG_free [] [0] (by kernel_rfl) rfl ?_
          intro ac W hT hI hO; have hle : hs.length ≤ 1 := hle; have h0 : ac.tmps.getD 0 undef = .pointer (some ⟨K, 0, none⟩) := hO 0 (by simp); show Brings _ (fun v _ => _ ∧ v = _) _; simp only [execOp, Act.eval, h0]; go_simp
          try exact tq
        case s5 =>
          refine fun hs hle => stepG_free [17] [] (by kernel_rfl) rfl ?_
          intro ac W hT hI hO; have hle : hs.length ≤ 1 := hle; have h17 : ac.tmps.getD 17 undef = _ := hI 17 (by simp); show Brings _ (fun v _ => _ ∧ v = _) _; obtain ⟨k0, k1, k2, kf1, kf2⟩ := HKW.out W (BxS.turned hs W hT); simp only [execOp, Act.eval, h17]; go_simp
          try exact tq
        case s6 =>
          refine fun hs hle => stepG_free [18] [] (by kernel_rfl) rfl ?_
          intro ac W hT hI hO; have hle : hs.length ≤ 1 := hle; have h18 : ac.tmps.getD 18 undef = _ := hI 18 (by simp); show Brings _ (fun v _ => _ ∧ v = _) _; simp only [execOp, Act.eval, h18]; go_simp
          try exact tq
        case s7 =>
          refine fun hs hle => stepG_free [19] [] (by kernel_rfl) rfl ?_
          intro ac W hT hI hO; have hle : hs.length ≤ 1 := hle; have h19 : ac.tmps.getD 19 undef = _ := hI 19 (by simp); show Brings _ (fun v _ => _ ∧ v = _) _; obtain ⟨k0, k1, k2, kf1, kf2⟩ := HKW.out W (BxS.turned hs W hT); simp only [execOp, Act.eval, h19]; go_simp
          try exact tq
        case s8 =>
          refine fun hs hle => stepG_free [20] [] (by kernel_rfl) rfl ?_
          intro ac W hT hI hO; have hle : hs.length ≤ 1 := hle; have h20 : ac.tmps.getD 20 undef = _ := hI 20 (by simp); show Brings _ (fun v _ => _ ∧ v = _) _; simp only [execOp, Act.eval, h20]; go_simp
          try exact tq
        case s9 =>
          refine fun hs hle => stepG_free [21] [] (by kernel_rfl) rfl ?_
          intro ac W hT hI hO; have hle : hs.length ≤ 1 := hle; have h21 : ac.tmps.getD 21 undef = _ := hI 21 (by simp); show Brings _ (fun v _ => _ ∧ v = _) _; simp only [execOp, Act.eval, h21]; go_simp
          try rw [wrapI (by omega) (by omega)]
          try exact tq
        case s10 =>
          refine fun hs hle => stepG_free [16, 22] [] (by kernel_rfl) rfl ?_
          intro ac W hT hI hO; have hle : hs.length ≤ 1 := hle; have h16 : ac.tmps.getD 16 undef = _ := hI 16 (by simp); have h22 : ac.tmps.getD 22 undef = _ := hI 22 (by simp); show Brings _ (fun v _ => _ ∧ v = _) _; simp only [execOp, Act.eval, h16, h22]; go_simp
          try rw [if_pos (by omega)]
          try exact tq
        case s11 =>
          refine fun hs hle => stepG_free [23] [] (by kernel_rfl) rfl ?_
          intro ac W hT hI hO; have hle : hs.length ≤ 1 := hle; have h23 : ac.tmps.getD 23 undef = _ := hI 23 (by simp); show Brings _ (fun v _ => _ ∧ v = _) _; obtain ⟨⟨x0, x1, x2, x3⟩, x4, x5, x6, x7⟩ := HLW.out W (BxS.turned hs W hT); simp only [execOp, Act.eval, h23]; go_simp
          try exact tq
        case s12 =>
          refine fun hs hlen => stepG_free [] [] (by kernel_rfl) rfl ?_
          intro ac W hT hI hO; obtain rfl : hs = [] := List.eq_nil_of_length_eq_zero hlen; replace hT : Turned (fun _ => False) wr W := hT; show Brings Try.prog (fun vv w' => BxS q wr [vv] w') _; simp only [execOp, Act.eval]; go_simp; exact ⟨hT.alloc _, _, _, _, _, _, _, _, _, _, rfl, hT.size, heap_alloc_new W _⟩
        case s13 =>
          refine fun hs hlen => stepG_free [4, 24] [] (by kernel_rfl) rfl ?_
          intro ac W hT hI hO; have h4 : hs[0]? = some (ac.tmps.getD 4 undef) := hI 4 (by simp); have h24 : ac.tmps.getD 24 undef = _ := hI 24 (by simp); obtain ⟨a, rfl⟩ := List.length_eq_one_iff.1 hlen; obtain ⟨hT1, B, a0, a1, a2, a3, a4, a5, a6, a7, ha, hB, hb⟩ := hT
          have e4 : a = ac.tmps.getD 4 undef := by simpa using h4
          rw [e4] at ha; obtain ⟨⟨p0, p1, p2, p3, p4, p5, p6, p7⟩, f0, f1, f2, f3, f4, f5, f6, f7⟩ := cells8 hb; have HST := hid (set8 (a' := .int .i64 q.1.kind) (b' := .int .i64 q.1.n) (c' := .string q.1.name) (d' := .slice q.1.at_.1 q.1.args.length q.1.at_.2) (e' := .int .i64 q.2.kind) (f' := .int .i64 q.2.n) (g' := .string q.2.name) (h' := .slice q.2.at_.1 q.2.args.length q.2.at_.2) hb); have HT8 := hid (hT1.step (turned8 W B (.int .i64 q.1.kind) (.int .i64 q.1.n) (.string q.1.name) (.slice q.1.at_.1 q.1.args.length q.1.at_.2) (.int .i64 q.2.kind) (.int .i64 q.2.n) (.string q.2.name) (.slice q.2.at_.1 q.2.args.length q.2.at_.2)) (fun i hi e => by omega)); have HBB : Hid (wr.heap.size ≤ B) := hB; show Brings Try.prog (fun vv w' => BxS q wr [a, vv] w') _; have HEA := hid (e4.trans ha); clear hb hT1 hB; simp only [execOp, Act.eval, ha, h24]; go_simp; exact ⟨HT8.out, B, by first | rfl | exact HEA.out, HBB.out, HST.out⟩
      case hQ =>
        intro hs2 vs2 w5 hlen2 hR hV; obtain ⟨b1, b2, rfl⟩ := list2' hlen2; obtain ⟨T5, B, rfl, hB, hb5⟩ := hR; have q4 : some (Value.pointer (some ⟨B, 0, none⟩)) = some (vs2 4) := hV 4 (by simp); have q4' : vs2 4 = .pointer (some ⟨B, 0, none⟩) := (Option.some.inj q4).symm; simp only [List.foldl_cons, List.foldl_nil, List.setIfInBounds_toArray, List.set_cons_zero, List.set_cons_succ, q4']; clear q4 q4' hV hlen2; have HB5 := hid hb5; have HBN : Hid (wr.heap.size ≤ B) := hB; have hpc := (HI.out.uk.turned0 T5).popc ((c1 : Int) + 1); have HPC := hid (And.intro (hpc.1.turned0 (Turned.refl _ _).drew) hpc.2.drew); have HT5 := hid T5; have hkl := (Array.getElem?_eq_some_iff.1 HI.out.uk.k).1
        have hKB : K ≠ B := by have := HBN.out; omega
        have hBK : B ≠ K := by have := HBN.out; omega
        obtain ⟨k0, k1, k2, kf1, kf2⟩ := HKW.out w5 T5; obtain ⟨⟨p0, p1, p2, p3, p4, p5, p6, p7⟩, _⟩ := cells8 hb5; have hc2k := HI.out.c2
        have hcc : ss.length ≤ cap := by omega
        have hwr : IntKind.i64.wrap (ss.length : Int) = (ss.length : Int) := wrapI (by omega) (by omega); clear T5 hB hb5 hpc
        go_wp2_with fail
        refine region_tail 14 (by kernel_rfl) (by kernel_rfl) ?_; simp only [List.take_succ_cons, List.take_zero, List.drop_succ_cons, List.drop_zero]
        repeat still_step
        refine wpStill_nil ?_
        by_cases hover : c1 = 2000
        · have hu : U = .over := by
            have := HI.out.same; rw [hover, pairsT_snoc, show 2000 - 2000 = 0 from rfl, Tm.unify_zero] at this; exact this.symm
          have HE := hid hu; have d1 : decide (2000 < (c1 : Int) + 1) = true := decide_eq_true (by omega); clear hu hover
          go_wp2_with fail
          go_ret2
          rw [HE.out]; obtain ⟨r1, r2, _⟩ := HI.out.far HT5.out HPC.out.2 (Turned.refl (ownU K (.slice (some ⟨g, 0, none⟩) (ss ++ [q]).length cap) O1) _) (fun k hk => hk) (O' := O1) (fun k hk _ => hk); exact ⟨rfl, _, ss, _, O1, l1, HI.out.pre, HPC.out.1, r1, r2⟩
        · have d1 : decide (2000 < (c1 : Int) + 1) = false := decide_eq_false (by omega)
          obtain ⟨hx, hy⟩ := HI.out.uk.mem q (by simp); have T6 := HPC.out.2
          have hin : ∀ t : LT, t.In p wr → t.In p ((w5.setCell ⟨K, 1, none⟩ (.slice (some ⟨g, 0, none⟩) ss.length cap)).setCell ⟨K, 2, none⟩ (.int .i64 ((c1 : Int) + 1))).drew := fun t ht => LT.In.turned T6 (fun k _ hk e => HI.out.uk.kO.2 (e ▸ hk)) (fun _ _ hk => hk) _ (ht.turned0 HT5.out)
          have hone := one173 (c := c1 + 1) (by rw [show (((c1 + 1 : Nat) : Int)) = (c1 : Int) + 1 from by omega]; exact HPC.out.1) (by omega) (by omega) (hin _ hx.1) hx.2 (hin _ hy.1) hy.2; rw [LT.val_eq, LT.val_eq] at hone; have hun := HI.out.same; rw [pairsT_snoc, show 2000 - c1 = (2000 - (c1 + 1)) + 1 from by omega] at hun; obtain ⟨S, hS⟩ : ∃ z, z = Tm.oneU (bt l1) (2000 - (c1 + 1)) (Tm.walkT (bt l1) q.1.bare) (Tm.walkT (bt l1) q.2.bare) := ⟨_, rfl⟩; rw [← hS] at hone; have HON := hid hone; have HUN := hid hun; have HS := hid hS; clear hone hun hS hx hy hin T6
          cases S with
          | more ps =>
            have hu := (Tm.unify_more (r := pairsT ss) HS.out.symm).symm.trans HUN.out; have HE := hid hu; clear hu
            go_wp2_with (go_at_call 173; (with_reducible refine HON.out.mono ?_); rintro e w7 ⟨rfl, v7, qs, u7, hq7, ho7, T7⟩; have HU7 := hid u7; have HQ7 := hid hq7; have HO7 := hid ho7; have HT7 := hid T7; clear u7 hq7 ho7 T7)
            go_roundg (2000 - (c1 + 1))
            case measure => have := HG.out; omega
            case rel =>
              obtain ⟨r1, r2, r3⟩ := HI.out.far HT5.out HPC.out.2 HT7.out (fun k hk => by simpa [Value.ownBlock] using hk) (O' := O1) (fun k hk _ => hk); refine ⟨v7, ss ++ qs.reverse, c1 + 1, O1, l1, show _ = _ by omega, HU7.out, by omega, ?_, HI.out.pre, ?_, ?_, r1, r2⟩
              · have hql : qs.length ≤ 8 := by
                  have h1 := congrArg List.length HQ7.out; rw [List.length_map] at h1; have h2 := Tm.oneU_more_len HS.out.symm (Tm.walkT_own HI.out.uk.bo.ok _ _ (Nat.le_refl _) (HI.out.uk.mem q (by simp)).1.2); omega
                have := HI.out.len; rw [List.length_append, List.length_singleton] at this; rw [List.length_append, List.length_reverse]; omega
              · rw [pairsT_args, HQ7.out]; exact HE.out
              · intro k hk hl
                rcases hk with e | e | e
                · exact .inl e
                · rcases HO7.out with h | h
                  · exact HI.out.own k (.inr (.inl (by rw [h] at e; simpa [Value.ownBlock] using e))) hl
                  · have := h k e; omega
                · exact HI.out.own k (.inr (.inr e)) hl
          | done r =>
          cases r with
          | ok l' left' =>
            have hu := (Tm.unify_ok (r := pairsT ss) HS.out.symm).symm.trans HUN.out; have HE := hid hu; have hlf := Tm.oneU_left HS.out.symm; have HLF := hid hlf; clear hu hlf
            go_wp2_with (go_at_call 173; (with_reducible refine HON.out.mono ?_); rintro e w7 ⟨v7, rfl, rfl, l7, O7, hl7, u7, ho7, T7⟩; have HU7 := hid u7; have HL7 := hid hl7; have HO7 := hid ho7; have HT7 := hid T7; clear u7 hl7 ho7 T7)
            go_roundg left'
            case measure => have := HG.out; have := HLF.out; omega
            case rel =>
              obtain ⟨r1, r2, r3⟩ := HI.out.far HT5.out HPC.out.2 HT7.out (fun k hk => by simpa [Value.ownBlock] using hk) HO7.out; have hlf := HLF.out; refine ⟨.slice (some ⟨g, 0, none⟩) ss.length cap, ss, 2000 - left', O7, l7, show _ = _ by omega, ?_, by omega, ?_, ?_, ?_, ?_, r1, r2⟩
              · rw [show (((2000 - left' : Nat) : Int)) = 2000 - (left' : Int) from by omega]; exact HU7.out
              · have := HI.out.len
                rw [List.length_append, List.length_singleton] at this; omega
              · obtain ⟨a, ha⟩ := HI.out.pre
                obtain ⟨a2, ha2⟩ := Tm.oneU_pre HS.out.symm; exact ⟨a2 ++ a, by rw [HL7.out, ha2, ha, List.append_assoc]⟩
              · rw [HL7.out, show 2000 - (2000 - left') = left' from by omega]; exact HE.out
              · intro k hk hl
                rcases hk with e | e | e
                · exact .inl e
                · exact HI.out.own k (.inr (.inl (by simpa [Value.ownBlock] using e))) hl
                · exact HI.out.own k (.inr (.inr (HO7.out k e (Nat.lt_of_lt_of_le hl r3)))) hl
          | no q' =>
            have hu := (Tm.unify_no (r := pairsT ss) HS.out.symm).symm.trans HUN.out; have HE := hid hu; clear hu
            go_wp2_with (go_at_call 173; (with_reducible refine HON.out.mono ?_); rintro e w7 ⟨v7, rfl, rfl, l7, O7, hl7, u7, ho7, T7⟩; have HU7 := hid u7; have HL7 := hid hl7; have HO7 := hid ho7; have HT7 := hid T7; clear u7 hl7 ho7 T7)
            go_ret2
            rw [← HE.out]; obtain ⟨r1, r2, r3⟩ := HI.out.far HT5.out HPC.out.2 HT7.out (fun k hk => by simpa [Value.ownBlock] using hk) HO7.out; exact ⟨rfl, _, ss, O7, l7, by rw [HL7.out]; exact HI.out.pre, HU7.out, r1, r2⟩
          | over =>
            have hu := (Tm.unify_over (r := pairsT ss) HS.out.symm).symm.trans HUN.out; have HE := hid hu; clear hu
            go_wp2_with (go_at_call 173; (with_reducible refine HON.out.mono ?_); rintro e w7 ⟨v7, rfl, rfl, c7, l7, O7, hl7, u7, ho7, T7⟩; have HU7 := hid u7; have HL7 := hid hl7; have HO7 := hid ho7; have HT7 := hid T7; clear u7 hl7 ho7 T7)
            go_ret2
            rw [← HE.out]; obtain ⟨r1, r2, r3⟩ := HI.out.far HT5.out HPC.out.2 HT7.out (fun k hk => by simpa [Value.ownBlock] using hk) HO7.out; exact ⟨rfl, _, ss, c7, O7, l7, by rw [HL7.out]; exact HI.out.pre, HU7.out, r1, r2⟩
end
end Go.Proofs.Ytoihjobdfjajfaa
namespace Go.Proofs.Ytoihjobdfjajfaa
open Lib (hid)
open Go.RowKit Go.Maps
theorem undoO101 {p O : Nat → Prop} {bb m : Nat} {l : TL} {w : World} (h : BO p bb O m l w) (n : Nat) (hn : n ≤ l.length) :
    Calls Try.prog 101 #[.pointer (some ⟨bb, 0, none⟩), .int .i64 n] w fun e w' => e = .returned (.bool true) ∧ After p bb O m (l.drop (l.length - n)) w w' := by
  obtain ⟨sb, lv, tv, B, hO⟩ := h.bi; refine (undo101 B n hn).mono ?_
  rintro e w' ⟨rfl, ⟨tv', B', ho⟩, T⟩
  refine ⟨rfl, O, ⟨⟨sb, lv, tv', B', fun k hk => hO k ?_⟩, fun b hb => h.box b (List.mem_of_mem_drop hb), fun k hk => Nat.lt_of_lt_of_le (h.lt k hk) T.size, h.sep⟩, fun k hk _ => hk, T.mono (fun k _ e => hO k (e.elim (fun e => .inr (.inl e)) (fun e => e.elim (fun e => .inr (.inr (.inl e))) (fun e => .inr (.inr (.inr e))))))⟩
  rcases hk with e | e | e | e
  · exact .inl e
  · exact .inr (.inl e)
  · exact .inr (.inr (.inl e))
  · exact .inr (.inr (.inr (ho ▸ e)))
noncomputable def bothR (m : Nat) (l : Tm.Trail) (x y : Tm Unit) : Bool × Int × Int × Tm.Trail :=
  if Tm.ownB m x = true ∧ Tm.ownB m y = true then
    match Tm.unify l 2000 [(x, y)] with
    | .ok l' left' => (true, 2000 - (left' : Int), 0, l')
    | .no q => (false, 2000 - (q : Int), 0, l)
    | .over => (false, 0, 12, l)
  else (false, 0, 1, l)
theorem UK.new {p O : Nat → Prop} {bb m : Nat} {l : TL} {w : World} {x y : LT} (h : BO p bb O m l w) (hx : x.In p w) (gx : Tm.ownB m x.bare = true) (hy : y.In p w) (gy : Tm.ownB m y.bare = true) :
    UK p bb (w.heap.size + 1) (.slice (some ⟨w.heap.size, 0, none⟩) 1 1) [(x, y)] 0 O m l ((w.alloc (.cells #[.int .i64 x.kind, .int .i64 x.n, .string x.name, .slice x.at_.1 x.args.length x.at_.2, .int .i64 y.kind, .int .i64 y.n, .string y.name, .slice y.at_.1 y.args.length y.at_.2] 187)).alloc (.cells #[.pointer (some ⟨bb, 0, none⟩), .slice (some ⟨w.heap.size, 0, none⟩) 1 1, .int .i64 0] 190)) := by
  have T : Turned (fun _ => False) w ((w.alloc (.cells #[.int .i64 x.kind, .int .i64 x.n, .string x.name, .slice x.at_.1 x.args.length x.at_.2, .int .i64 y.kind, .int .i64 y.n, .string y.name, .slice y.at_.1 y.args.length y.at_.2] 187)).alloc (.cells #[.pointer (some ⟨bb, 0, none⟩), .slice (some ⟨w.heap.size, 0, none⟩) 1 1, .int .i64 0] 190)) := ((Turned.refl _ w).alloc _).alloc _; refine ⟨h.turned0 T, heap_alloc2_new w _ _, ?_, fun q hq => ?_, ⟨fun e => by have := h.lt _ e; omega, fun e => by have := h.plt _ e; omega⟩, fun g hg => ?_⟩
  · have := Row.made w 187 8 #[.int .i64 x.kind, .int .i64 x.n, .string x.name, .slice x.at_.1 x.args.length x.at_.2, .int .i64 y.kind, .int .i64 y.n, .string y.name, .slice y.at_.1 y.args.length y.at_.2] 1 rfl (by unfold maxLen; omega)
    have := this.turned0 ((Turned.refl (fun _ => False) _).alloc (.cells #[.pointer (some ⟨bb, 0, none⟩), .slice (some ⟨w.heap.size, 0, none⟩) 1 1, .int .i64 0] 190)); simpa [PT.cells_eq] using this
  · rw [List.mem_singleton] at hq
    rw [hq]; exact ⟨⟨hx.turned0 T, gx⟩, hy.turned0 T, gy⟩
  · simp [Value.ownBlock] at hg
    subst hg; exact ⟨fun e => by have := h.lt _ e; omega, fun e => by have := h.plt _ e; omega, by omega⟩
section
variable {p O : Nat → Prop} {bb m : Nat} {l : TL} {w w' : World}
theorem both_after {v v' : Value} {st : List PT} {c : Int} {K : Nat} {O' : Nat → Prop} {l2 : TL} {w4 w6 w5 : World} (T4 : Turned (fun _ => False) w w4) (T5 : Turned (fun _ => False) w w5) (hK : w.heap.size ≤ K) (hv : ∀ g, v.ownBlock = some g → w.heap.size ≤ g) (u : UK p bb K v' st c O' m l2 w6) (ho : ∀ k, O' k → k < w5.heap.size → O k) (T6 : Turned (ownU K v O) w5 w6) : After p bb O m l2 w w6 :=
  ⟨O', u.bo, fun k hk hl => ho k hk (Nat.lt_of_lt_of_le hl T5.size), (T5.mono (fun _ _ f => f.elim)).step T6 (fun i hi e => by
    rcases e with e | e | e
    · omega
    · have := hv i e; omega
    · exact e)⟩
set_option maxRecDepth 100000 in
set_option maxHeartbeats 12800000 in
theorem bothO110 {x y : LT} (h : BO p bb O m l w) (hx : x.In p w) (sx : slim x) (hy : y.In p w) (sy : slim y) :
    Calls Try.prog 110 #[.pointer (some ⟨bb, 0, none⟩), x.val, y.val] w fun e w' => e = .returned (.tuple #[.bool (bothR m (bt l) x.bare y.bare).1, .int .i64 (bothR m (bt l) x.bare y.bare).2.1, .int .i64 (bothR m (bt l) x.bare y.bare).2.2.1]) ∧ ∃ l2, bt l2 = (bothR m (bt l) x.bare y.bare).2.2.2 ∧ After p bb O m l2 w w' := by
  have h2 := twoBox w (.cells #[.int .i64 x.kind, .int .i64 x.n, .string x.name, .slice x.at_.1 x.args.length x.at_.2] 27) (.cells #[.int .i64 y.kind, .int .i64 y.n, .string y.name, .slice y.at_.1 y.args.length y.at_.2] 27); obtain ⟨w2, hw2⟩ : ∃ z, z = (w.alloc (.cells #[.int .i64 x.kind, .int .i64 x.n, .string x.name, .slice x.at_.1 x.args.length x.at_.2] 27)).alloc (.cells #[.int .i64 y.kind, .int .i64 y.n, .string y.name, .slice y.at_.1 y.args.length y.at_.2] 27) := ⟨_, rfl⟩; rw [← hw2] at h2
  have hbx : ∀ W, Turned (fun _ => False) w2 W → W.heap[w.heap.size]? = some (.cells #[.int .i64 x.kind, .int .i64 x.n, .string x.name, .slice x.at_.1 x.args.length x.at_.2] 27 (0, 0)) ∧ W.heap[w.heap.size + 1]? = some (.cells #[.int .i64 y.kind, .int .i64 y.n, .string y.name, .slice y.at_.1 y.args.length y.at_.2] 27 (0, 0)) := fun W hW => ⟨(hW.block _ (by have := h2.2.1; omega) (fun f => f)).trans h2.2.2.1, (hW.block _ (by have := h2.2.1; omega) (fun f => f)).trans h2.2.2.2⟩
  have hox : ∀ W, Turned (fun _ => False) w2 W → Calls Try.prog 144 #[.pointer (some ⟨bb, 0, none⟩), x.val] W fun e w' => e = .returned (.bool (Tm.ownB m x.bare)) ∧ Turned (fun _ => False) W w' := fun W hW => by
    obtain ⟨sb, lv, tv, B, _⟩ := h.bi; rw [ownB_bare]; exact own144 (B.turned0 (h2.1.trans hW)) (hx.turned0 (h2.1.trans hW)) sx
  have hoy : ∀ W, Turned (fun _ => False) w2 W → Calls Try.prog 144 #[.pointer (some ⟨bb, 0, none⟩), y.val] W fun e w' => e = .returned (.bool (Tm.ownB m y.bare)) ∧ Turned (fun _ => False) W w' := fun W hW => by
    obtain ⟨sb, lv, tv, B, _⟩ := h.bi; rw [ownB_bare]; exact own144 (B.turned0 (h2.1.trans hW)) (hy.turned0 (h2.1.trans hW)) sy
  obtain ⟨R, hR⟩ : ∃ z, z = bothR m (bt l) x.bare y.bare := ⟨_, rfl⟩; rw [← hR]
  have hsame : ∀ W, Turned (fun _ => False) w2 W → After p bb O m l w W := fun W hW => ⟨O, h.turned0 (h2.1.trans hW), fun _ hk _ => hk, (h2.1.trans hW).mono (fun _ _ f => f.elim)⟩
  rw [LT.val_eq] at hox hoy ⊢; rw [LT.val_eq y]; have HOX := hid hox; have HOY := hid hoy; have HBX := hid hbx; have HW2 := hid hw2; have HT2 := hid h2.1; have HH := hid h; have HX := hid hx; have HY := hid hy; have HSAME := hid hsame; clear hox hoy hbx hw2 h2 h hx hy sx sy hsame
  cases gx : Tm.ownB m x.bare with
  | false =>
    have hr : R = (false, 0, 1, bt l) := by rw [hR]; unfold bothR; rw [if_neg (fun c => by rw [gx] at c; exact Bool.false_ne_true c.1)]
    rw [gx] at HOX; have HR := hid hr; clear hr hR gx; go_enter Try.func110, Try.ntmps110
    go_wp2_with (go_at_call 144; rw [← HW2.out]; (with_reducible refine (HOX.out _ (Turned.refl _ _)).mono ?_); rintro e w3 ⟨rfl, T3⟩)
    go_ret3
    rw [HR.out]; exact ⟨rfl, l, rfl, HSAME.out _ T3⟩
  | true =>
    rw [gx] at HOX
    cases gy : Tm.ownB m y.bare with
    | false =>
      have hr : R = (false, 0, 1, bt l) := by rw [hR]; unfold bothR; rw [if_neg (fun c => by rw [gy] at c; exact Bool.false_ne_true c.2)]
      rw [gy] at HOY; have HR := hid hr; clear hr hR gx gy; go_enter Try.func110, Try.ntmps110
      go_wp2_with (first
        | (go_at_call 144; (with_reducible refine (HOY.out _ T3).mono ?_); rintro e w4 ⟨rfl, T4⟩)
        | (go_at_call 144; rw [← HW2.out]; (with_reducible refine (HOX.out _ (Turned.refl _ _)).mono ?_); rintro e w3 ⟨rfl, T3⟩; obtain ⟨c0, c1, c2, c3, _⟩ := cells4 (HBX.out _ T3).2))
      go_ret3
      rw [HR.out]; exact ⟨rfl, l, rfl, HSAME.out _ (T3.trans T4)⟩
    | true =>
      rw [gy] at HOY
      have hr : R = match Tm.unify (bt l) 2000 [(x.bare, y.bare)] with
          | .ok l' left' => (true, 2000 - (left' : Int), 0, l')
          | .no q => (false, 2000 - (q : Int), 0, bt l)
          | .over => (false, 0, 12, bt l) := by rw [hR]; unfold bothR; rw [if_pos ⟨gx, gy⟩]
      have hall : ∀ W, Turned (fun _ => False) w2 W → Calls Try.prog 153 #[.pointer (some ⟨W.heap.size + 1, 0, none⟩)] ((W.alloc (.cells #[.int .i64 x.kind, .int .i64 x.n, .string x.name, .slice x.at_.1 x.args.length x.at_.2, .int .i64 y.kind, .int .i64 y.n, .string y.name, .slice y.at_.1 y.args.length y.at_.2] 187)).alloc (.cells #[.pointer (some ⟨bb, 0, none⟩), .slice (some ⟨W.heap.size, 0, none⟩) 1 1, .int .i64 0] 190)) (AllQ p bb (W.heap.size + 1) (.slice (some ⟨W.heap.size, 0, none⟩) 1 1) O m l ((W.alloc (.cells #[.int .i64 x.kind, .int .i64 x.n, .string x.name, .slice x.at_.1 x.args.length x.at_.2, .int .i64 y.kind, .int .i64 y.n, .string y.name, .slice y.at_.1 y.args.length y.at_.2] 187)).alloc (.cells #[.pointer (some ⟨bb, 0, none⟩), .slice (some ⟨W.heap.size, 0, none⟩) 1 1, .int .i64 0] 190)) (Tm.unify (bt l) 2000 [(x.bare, y.bare)])) := fun W hW =>
        all153 (c := 0) (UK.new (HH.out.turned0 (HT2.out.trans hW)) (HX.out.turned0 (HT2.out.trans hW)) gx (HY.out.turned0 (HT2.out.trans hW)) gy) (by omega) (by simp)
      obtain ⟨U, hU⟩ : ∃ z, z = Tm.unify (bt l) 2000 [(x.bare, y.bare)] := ⟨_, rfl⟩; rw [← hU] at hr hall; have HALL := hid hall; clear hR hU hall gx gy
      have HTT : Hid (∀ W W', Turned (fun _ => False) w2 W → Turned (fun _ => False) W W' → Turned (fun _ => False) w W') := fun W W' h1 h2 => (HT2.out.trans h1).trans h2
      cases U with
      | ok l' left' =>
        have HR := hid hr; clear hr; go_enter Try.func110, Try.ntmps110
        go_wp2_with (first
          | (go_at_call 144; (with_reducible refine (HOY.out _ T3).mono ?_); rintro e w4 ⟨rfl, T4⟩; have HT4 := hid (T3.trans T4); clear c0 c1 c2 c3 T3 T4)
          | (go_at_call 144; rw [← HW2.out]; (with_reducible refine (HOX.out _ (Turned.refl _ _)).mono ?_); rintro e w3 ⟨rfl, T3⟩; obtain ⟨c0, c1, c2, c3, _⟩ := cells4 (HBX.out _ T3).2)
          | (go_at_call 111; (with_reducible refine (markO111 (HH.out.turned0 (HT2.out.trans HT4.out))).mono ?_); rintro e w5 ⟨rfl, T5⟩; have HT5 := hid (HT4.out.trans T5); obtain ⟨x0, x1, x2, x3, _⟩ := cells4 (HBX.out _ HT5.out).1; obtain ⟨y0, y1, y2, y3, _⟩ := cells4 (HBX.out _ HT5.out).2; clear T5)
          | (go_at_call 153; (with_reducible refine (HALL.out _ HT5.out).mono ?_); rintro e w6 ⟨rfl, v6, st6, O6, l6, hl6, u6, ho6, T6⟩; have HL6 := hid hl6; have HU6 := hid u6; have HO6 := hid ho6; have HT6 := hid T6; obtain ⟨k0, k1, k2, _⟩ := u6.kcells; clear hl6 u6 ho6 T6))
        go_region
        go_wp2_with fail
        go_ret3
        rw [HR.out]; have hw5 : Turned (fun _ => False) w ((w5.alloc (.cells #[.int .i64 x.kind, .int .i64 x.n, .string x.name, .slice x.at_.1 x.args.length x.at_.2, .int .i64 y.kind, .int .i64 y.n, .string y.name, .slice y.at_.1 y.args.length y.at_.2] 187)).alloc (.cells #[.pointer (some ⟨bb, 0, none⟩), .slice (some ⟨w5.heap.size, 0, none⟩) 1 1, .int .i64 0] 190)) := HTT.out _ _ HT5.out (((Turned.refl _ w5).alloc _).alloc _); have hsz : w.heap.size ≤ w5.heap.size := (HT2.out.trans HT5.out).size; exact ⟨rfl, l6, HL6.out, (both_after hw5 hw5 (by omega) (fun g hg => by (simp [Value.ownBlock] at hg; omega)) HU6.out HO6.out HT6.out).turned0 (Turned.refl _ _).drew⟩
      | no q =>
        have HR := hid hr; clear hr; go_enter Try.func110, Try.ntmps110
        go_wp2_with (first
          | (go_at_call 144; (with_reducible refine (HOY.out _ T3).mono ?_); rintro e w4 ⟨rfl, T4⟩; have HT4 := hid (T3.trans T4); clear c0 c1 c2 c3 T3 T4)
          | (go_at_call 144; rw [← HW2.out]; (with_reducible refine (HOX.out _ (Turned.refl _ _)).mono ?_); rintro e w3 ⟨rfl, T3⟩; obtain ⟨c0, c1, c2, c3, _⟩ := cells4 (HBX.out _ T3).2)
          | (go_at_call 111; (with_reducible refine (markO111 (HH.out.turned0 (HT2.out.trans HT4.out))).mono ?_); rintro e w5 ⟨rfl, T5⟩; have HT5 := hid (HT4.out.trans T5); obtain ⟨x0, x1, x2, x3, _⟩ := cells4 (HBX.out _ HT5.out).1; obtain ⟨y0, y1, y2, y3, _⟩ := cells4 (HBX.out _ HT5.out).2; clear T5)
          | (go_at_call 153; (with_reducible refine (HALL.out _ HT5.out).mono ?_); rintro e w6 ⟨rfl, v6, st6, O6, l6, hl6, u6, ho6, T6⟩; have HL6 := hid hl6; have HU6 := hid u6; have HO6 := hid ho6; have HT6 := hid T6; clear hl6 u6 ho6 T6)
          | (go_at_call 101; have hun := undoO101 (n := l.length) HU6.out.bo (by obtain ⟨a, ha⟩ := HL6.out; have := congrArg List.length ha; rw [List.length_append, bt_length, bt_length] at this; omega); (with_reducible refine hun.mono ?_); rintro e w7 ⟨rfl, A7⟩; have HA7 := hid A7; obtain ⟨k0, k1, k2, _⟩ := (HU6.out.after A7).choose_spec.1.kcells; clear A7 hun))
        go_region
        go_wp2_with fail
        go_ret3
        rw [HR.out]; have hw5 : Turned (fun _ => False) w ((w5.alloc (.cells #[.int .i64 x.kind, .int .i64 x.n, .string x.name, .slice x.at_.1 x.args.length x.at_.2, .int .i64 y.kind, .int .i64 y.n, .string y.name, .slice y.at_.1 y.args.length y.at_.2] 187)).alloc (.cells #[.pointer (some ⟨bb, 0, none⟩), .slice (some ⟨w5.heap.size, 0, none⟩) 1 1, .int .i64 0] 190)) := HTT.out _ _ HT5.out (((Turned.refl _ w5).alloc _).alloc _); have hsz : w.heap.size ≤ w5.heap.size := (HT2.out.trans HT5.out).size; have h6 := both_after hw5 hw5 (by omega) (fun g hg => by (simp [Value.ownBlock] at hg; omega)) HU6.out HO6.out HT6.out; refine ⟨rfl, l6.drop (l6.length - l.length), ?_, ?_⟩
        · obtain ⟨a, ha⟩ := HL6.out
          have hlen := congrArg List.length ha; rw [List.length_append, bt_length, bt_length] at hlen; show bt _ = bt l; unfold bt at ha ⊢; rw [List.map_drop, ha, show l6.length - l.length = a.length from by omega, List.drop_left]
        · obtain ⟨O7, a1, a2, a3⟩ := HA7.out
          obtain ⟨O8, b1, b2, b3⟩ := h6; have hs6 := hw5.size; have hs7 := HT6.out.size; refine After.turned0 (w2 := _) ⟨O7, a1, fun k hk hl => HO6.out k (a2 k hk (by omega)) (by omega), b3.step a3 (fun i hi e => HO6.out i e (by omega))⟩ (Turned.refl _ _).drew
      | over =>
        have HR := hid hr; clear hr; go_enter Try.func110, Try.ntmps110
        go_wp2_with (first
          | (go_at_call 144; (with_reducible refine (HOY.out _ T3).mono ?_); rintro e w4 ⟨rfl, T4⟩; have HT4 := hid (T3.trans T4); clear c0 c1 c2 c3 T3 T4)
          | (go_at_call 144; rw [← HW2.out]; (with_reducible refine (HOX.out _ (Turned.refl _ _)).mono ?_); rintro e w3 ⟨rfl, T3⟩; obtain ⟨c0, c1, c2, c3, _⟩ := cells4 (HBX.out _ T3).2)
          | (go_at_call 111; (with_reducible refine (markO111 (HH.out.turned0 (HT2.out.trans HT4.out))).mono ?_); rintro e w5 ⟨rfl, T5⟩; have HT5 := hid (HT4.out.trans T5); obtain ⟨x0, x1, x2, x3, _⟩ := cells4 (HBX.out _ HT5.out).1; obtain ⟨y0, y1, y2, y3, _⟩ := cells4 (HBX.out _ HT5.out).2; clear T5)
          | (go_at_call 153; (with_reducible refine (HALL.out _ HT5.out).mono ?_); rintro e w6 ⟨rfl, v6, st6, c6, O6, l6, hl6, u6, ho6, T6⟩; have HL6 := hid hl6; have HU6 := hid u6; have HO6 := hid ho6; have HT6 := hid T6; clear hl6 u6 ho6 T6)
          | (go_at_call 101; have hun := undoO101 (n := l.length) HU6.out.bo (by obtain ⟨a, ha⟩ := HL6.out; have := congrArg List.length ha; rw [List.length_append, bt_length, bt_length] at this; omega); (with_reducible refine hun.mono ?_); rintro e w7 ⟨rfl, A7⟩; have HA7 := hid A7; clear A7 hun))
        go_ret3
        rw [HR.out]; have hw5 : Turned (fun _ => False) w ((w5.alloc (.cells #[.int .i64 x.kind, .int .i64 x.n, .string x.name, .slice x.at_.1 x.args.length x.at_.2, .int .i64 y.kind, .int .i64 y.n, .string y.name, .slice y.at_.1 y.args.length y.at_.2] 187)).alloc (.cells #[.pointer (some ⟨bb, 0, none⟩), .slice (some ⟨w5.heap.size, 0, none⟩) 1 1, .int .i64 0] 190)) := HTT.out _ _ HT5.out (((Turned.refl _ w5).alloc _).alloc _); have hsz : w.heap.size ≤ w5.heap.size := (HT2.out.trans HT5.out).size; have h6 := both_after hw5 hw5 (by omega) (fun g hg => by (simp [Value.ownBlock] at hg; omega)) HU6.out HO6.out HT6.out; refine ⟨rfl, l6.drop (l6.length - l.length), ?_, ?_⟩
        · obtain ⟨a, ha⟩ := HL6.out
          have hlen := congrArg List.length ha; rw [List.length_append, bt_length, bt_length] at hlen; show bt _ = bt l; unfold bt at ha ⊢; rw [List.map_drop, ha, show l6.length - l.length = a.length from by omega, List.drop_left]
        · obtain ⟨O7, a1, a2, a3⟩ := HA7.out
          obtain ⟨O8, b1, b2, b3⟩ := h6; have hs6 := hw5.size; have hs7 := HT6.out.size; refine ⟨O7, a1, fun k hk hl => HO6.out k (a2 k hk (by omega)) (by omega), b3.step a3 (fun i hi e => HO6.out i e (by omega))⟩
end
end Go.Proofs.Ytoihjobdfjajfaa
namespace Go.Proofs.Ytoihjobdfjajfaa
namespace Tm
structure MS where
  m : Nat
  l : Trail
  rs : List (Tm Unit)
  ss : List (Tm Unit)
inductive MR where
  | go (st : MS)
  | stop (e : Int) (m : Nat)
def tieM (st : MS) (x t : Tm Unit) : MR :=
  if x.kind = 0 then (if setE st.m st.l x.n t = 0 then .go ⟨st.m, (x.n, t) :: st.l, st.rs, st.ss⟩ else .stop (setE st.m st.l x.n t) st.m)
  else if sameB x t = true then .go st else .stop 0 st.m
def putAt (rs : List (Tm Unit)) (c : Nat) (xs : List (Tm Unit)) : List (Tm Unit) := rs.take c ++ (xs ++ rs.drop (c + xs.length))
def news (m k : Nat) : List (Tm Unit) := (List.range k).map fun i => V ((m + i : Nat) : Int)
def newT (s : Stp) (m : Nat) : Tm Unit := .mk 2 0 s.name () (news m s.b.toNat)
def compM (st : MS) (x : Tm Unit) (s : Stp) : MR :=
  if x.kind = 0 then
    (if st.m + s.b.toNat ≤ 65536 then
      (if setE (st.m + s.b.toNat) st.l x.n (newT s st.m) = 0 then .go ⟨st.m + s.b.toNat, (x.n, newT s st.m) :: st.l, putAt st.rs s.c.toNat (news st.m s.b.toNat), st.ss⟩
      else .stop (setE (st.m + s.b.toNat) st.l x.n (newT s st.m)) (st.m + s.b.toNat))
    else .stop 12 65536)
  else if x.name = s.name ∧ (x.args.length : Int) = s.b then .go ⟨st.m, st.l, putAt st.rs s.c.toNat x.args, st.ss⟩ else .stop 0 st.m
noncomputable def valM (st : MS) (y x : Tm Unit) : MR :=
  if (bothR st.m st.l y x).1 = true ∧ (bothR st.m st.l y x).2.2.1 = 0 then .go ⟨st.m, (bothR st.m st.l y x).2.2.2, st.rs, st.ss⟩ else .stop (bothR st.m st.l y x).2.2.1 st.m
noncomputable def stepM (st : MS) (s : Stp) : MR :=
  let x := walkT st.l (st.rs.getD s.a.toNat (V 0))
  if s.op = sVar then .go ⟨st.m, st.l, st.rs, st.ss.set s.b.toNat x⟩
  else if s.op = sVal then valM st (st.ss.getD s.b.toNat (V 0)) x
  else if s.op = sInt then tieM st x (.mk 1 s.n ByteArray.empty () [])
  else if s.op = sAtom then tieM st x (.mk 2 0 s.name () [])
  else compM st x s
noncomputable def runM : MS → List Stp → MR
  | st, [] => .go st
  | st, s :: L => match stepM st s with
    | .go st' => runM st' L
    | .stop e m => .stop e m
theorem putAt_length {rs xs : List (Tm Unit)} {c : Nat} (h : c + xs.length ≤ rs.length) : (putAt rs c xs).length = rs.length := by
  unfold putAt; rw [List.length_append, List.length_append, List.length_take, List.length_drop]; omega
theorem putAt_old {rs xs : List (Tm Unit)} {c j : Nat} (h : c + xs.length ≤ rs.length) (hj : j < c) : (putAt rs c xs)[j]? = rs[j]? := by
  unfold putAt; rw [List.getElem?_append_left (by rw [List.length_take]; omega), List.getElem?_take, if_pos hj]
theorem putAt_new {rs xs : List (Tm Unit)} {c j : Nat} (h : c + xs.length ≤ rs.length) (hj : j < xs.length) : (putAt rs c xs)[c + j]? = xs[j]? := by
  unfold putAt
  have hl : (rs.take c).length = c := by rw [List.length_take]; omega
  rw [List.getElem?_append_right (by omega), hl, Nat.add_sub_cancel_left, List.getElem?_append_left hj]
theorem news_length (m k : Nat) : (news m k).length = k := by unfold news; rw [List.length_map, List.length_range]
theorem news_at {m k j : Nat} (h : j < k) : (news m k)[j]? = some (V ((m + j : Nat) : Int)) := by
  unfold news; rw [List.getElem?_map, List.getElem?_range h]; rfl
structure MInv {α : Type} (t : Tm α) (i : Nat) (st : MS) : Prop where
  ok : okT st.m st.l
  most : st.m ≤ 65536
  rl : st.rs.length = sizes t.args
  sl : st.ss.length = t.vars.length
  own : ∀ j y, j < cb t.args i → st.rs[j]? = some y → ownB st.m y = true
  slots : ∀ v ∈ met t.args i, ∀ y, st.ss[posOf t.vars v]? = some y → ownB st.m y = true
structure MSol {α : Type} (t : Tm α) (ρ : Int → Tm Unit) (i : Nat) (st : MS) (θ : Int → Tm Unit) : Prop where
  sol : solves θ st.l
  regs : ∀ j y r, j < cb t.args i → st.rs[j]? = some y → (Tm.regs t.args)[j]? = some r → subT θ y = subT ρ r.bare
  slots : ∀ v ∈ met t.args i, ∀ y, st.ss[posOf t.vars v]? = some y → subT θ y = ρ v
structure MNext {α : Type} (t : Tm α) (i : Nat) (x : Tm α) (st st' : MS) : Prop where
  inv : MInv t (i + 1) st'
  le : st.m ≤ st'.m
  pre : ∃ a, st'.l = a ++ st.l
  rs : ∀ j, j < cb t.args i → st'.rs[j]? = st.rs[j]?
  ss : ∀ v ∈ met t.args i, st'.ss[posOf t.vars v]? = st.ss[posOf t.vars v]?
  snd : ∀ θ ρ, solves θ st'.l → (∀ j, j < x.args.length → ∀ y r, st'.rs[cb t.args i + j]? = some y → x.args[j]? = some r → subT θ y = subT ρ r.bare) → (x.kind = 0 → ∀ y, st'.ss[posOf t.vars x.n]? = some y → subT θ y = ρ x.n) → ∀ y, st.rs[i]? = some y → subT θ y = subT ρ x.bare
  cpl : ∀ θ ρ, MSol t ρ i st θ → ∃ θ', (∀ v, v < (st.m : Int) → θ' v = θ v) ∧ MSol t ρ (i + 1) st' θ'
def MStep {α : Type} (t : Tm α) (i : Nat) (x : Tm α) (st : MS) : MR → Prop
  | .go st' => MNext t i x st st'
  | .stop e m' => st.m ≤ m' ∧ m' ≤ 65536 ∧ (e = 0 → ∀ θ ρ, ¬ MSol t ρ i st θ)
theorem ownB_more {m m' : Nat} {t : Tm Unit} (h : ownB m t = true) (hm : m ≤ m') : ownB m' t = true := by
  rw [ownB_iff] at h ⊢; exact ⟨h.1, fun v hv => by have := h.2 v hv; omega⟩
theorem subT_own {m : Nat} {t : Tm Unit} {θ θ' : Int → Tm Unit} (h : ownB m t = true) (hθ : ∀ v, v < (m : Int) → θ' v = θ v) : subT θ' t = subT θ t :=
  subT_congr t (fun x hx hk => hθ _ ((ownB_iff.1 h).2 _ ⟨x, hx, hk, rfl⟩))
theorem solves_own {m : Nat} {l : Trail} {θ θ' : Int → Tm Unit} (h : okT m l) (hθ : ∀ v, v < (m : Int) → θ' v = θ v) (hs : solves θ l) : solves θ' l := by
  intro b hb; obtain ⟨h0, h1, h2, h3⟩ := okT_mem h hb; rw [hθ _ h1, hs b hb]; exact (subT_congr _ (fun x hx hk => hθ _ (h3 _ ⟨x, hx, hk, rfl⟩))).symm
section
variable {α : Type} {t : Tm α} {i : Nat} {x : Tm α} {st : MS}
theorem cb_le {l : List (Tm α)} {i : Nat} (h : i ≤ sizes l) : cb l i ≤ sizes l := by
  have h1 := reg_le l h; have h2 := regs_length l; unfold regs at h2; unfold cb; omega
theorem MNext.trail {l' : Trail} (hx : (regs t.args)[i]? = some x) (ha : x.args.length = 0) (hm : x.kind ≠ 0 ∨ x.n ∈ met t.args i) (I : MInv t i st) (hok : okT st.m l') (hpre : ∃ a, l' = a ++ st.l)
    (hsnd : ∀ θ ρ, solves θ l' → (x.kind = 0 → ∀ y, st.ss[posOf t.vars x.n]? = some y → subT θ y = ρ x.n) → ∀ y, st.rs[i]? = some y → subT θ y = subT ρ x.bare)
    (hcpl : ∀ θ ρ, MSol t ρ i st θ → solves θ l') : MNext t i x st ⟨st.m, l', st.rs, st.ss⟩ := by
  have hc : cb t.args (i + 1) = cb t.args i := by have := (cb_next hx).1; omega
  have hmet : met t.args (i + 1) = met t.args i := by
    rw [met_succ hx]; unfold addVar
    rcases hm with h | h
    · rw [if_neg (fun c => h c.1)]
    · rw [if_neg (fun c => c.2 h)]
  exact ⟨⟨hok, I.most, I.rl, I.sl, by rw [hc]; exact I.own, by rw [hmet]; exact I.slots⟩, Nat.le_refl _, hpre, fun _ _ => rfl, fun _ _ => rfl, fun θ ρ hs _ h3 => hsnd θ ρ hs h3, fun θ ρ S => ⟨θ, fun _ _ => rfl, hcpl θ ρ S, by rw [hc]; exact S.regs, by rw [hmet]; exact S.slots⟩⟩
theorem walk_facts (I : MInv t i st) (hi : i < cb t.args i) : ∃ y, st.rs[i]? = some y ∧ st.rs.getD i (V 0) = y ∧ ownB st.m y = true ∧ ownB st.m (walkT st.l y) = true ∧ ((walkT st.l y).kind = 0 → (walkT st.l y).n ∉ dom st.l) ∧ ∀ θ, solves θ st.l → subT θ (walkT st.l y) = subT θ y := by
  by_cases hlt : i < st.rs.length
  · have hy : st.rs[i]? = some st.rs[i] := List.getElem?_eq_getElem hlt
    have ho := I.own i _ hi hy; have hw := walked I.ok _ st.rs[i] (Nat.le_refl _) (good_ones' (ownB_iff.1 ho).1); exact ⟨_, hy, by rw [List.getD_eq_getElem?_getD, hy]; rfl, ho, walkT_own I.ok _ _ (Nat.le_refl _) ho, hw.free, fun θ hs => solves_walk I.ok hs (good_ones' (ownB_iff.1 ho).1)⟩
  · exfalso
    have hrl := I.rl
    have : i < sizes t.args ∨ sizes t.args ≤ i := by omega
    rcases this with h | h
    · omega
    · have h1 : cb t.args i ≤ sizes t.args := by
        have hl := regs_length t.args; unfold regs at hl; unfold cb
        have hs : ∀ j, (reg t.args (sizes t.args + j)).length = sizes t.args := by
          intro j
          induction j with
          | zero => exact hl
          | succ j ih =>
            have hn : (reg t.args (sizes t.args + j))[sizes t.args + j]? = none := List.getElem?_eq_none (by omega); rw [← Nat.add_assoc]; simp only [reg, hn]; exact ih
        have := hs (i - sizes t.args); rw [show sizes t.args + (i - sizes t.args) = i by omega] at this; omega
      omega
theorem tie_step {c : Tm Unit} (hx : (regs t.args)[i]? = some x) (hg : goodB c = true) (hc0 : ¬ c.kind = 0) (hca : c.args = []) (hb : x.bare = c) (I : MInv t i st) : MStep t i x st (tieM st (walkT st.l (st.rs.getD i (V 0))) c) := by
  obtain ⟨c1, c2, c3, c4⟩ := cb_next hx; obtain ⟨y, hy, hgd, ho, how, hfree, hsw⟩ := walk_facts I c2; rw [hgd]
  have hk : x.kind = c.kind := by rw [← hb, bare_kind]
  have ha : x.args.length = 0 := by
    have : x.bare.args = [] := by rw [hb]; exact hca
    rw [bare_args, bares_eq] at this; have := congrArg List.length this; simpa using this
  have hsub : ∀ ρ, subT ρ x.bare = c := by
    intro ρ; rw [hb, subT_node ρ hc0, hca]; exact (ext_mk rfl rfl rfl (by rw [hca]; rfl))
  unfold tieM
  by_cases h0 : (walkT st.l y).kind = 0
  · rw [if_pos h0]
    by_cases he : setE st.m st.l (walkT st.l y).n c = 0
    · rw [if_pos he]
      have hv : walkT st.l y = V (walkT st.l y).n := (ownB_var how h0).2.2; refine MNext.trail hx ha (.inl (by rw [hk]; exact hc0)) I (setE_ok I.ok he) ⟨[_], rfl⟩ ?_ ?_
      · intro θ ρ hs _ y' hy'
        rw [hy] at hy'; injection hy' with hy'; subst hy'
        obtain ⟨s1, s2⟩ := solves_cons.1 hs; rw [hsub, ← hsw θ s2, hv, subT_V1]; simp only at s1; rw [s1, ← hb, hsub, hb]
      · intro θ ρ S
        refine solves_cons.2 ⟨?_, S.sol⟩; have h1 := S.regs i y x c2 hy hx; rw [hsub, ← hsw θ S.sol, hv, subT_V1] at h1; show θ (walkT st.l y).n = subT θ c; rw [h1, ← hb, hsub, hb]
    · rw [if_neg he]
      exact ⟨Nat.le_refl _, I.most, fun e => absurd e he⟩
  · rw [if_neg h0]
    by_cases hs : sameB (walkT st.l y) c = true
    · rw [if_pos hs]
      have he : walkT st.l y = c := by
        unfold sameB at hs; simp only [Bool.and_eq_true] at hs; exact (same_unit _ _).1 hs.2.2
      have := MNext.trail (l' := st.l) hx ha (.inl (by rw [hk]; exact hc0)) I I.ok ⟨[], rfl⟩ ?_ ?_
      · exact this
      · intro θ ρ hso _ y' hy'
        rw [hy] at hy'; injection hy' with hy'; subst hy'
        rw [hsub, ← hsw θ hso, he, ← hb, hsub, hb]
      · exact fun θ ρ S => S.sol
    · rw [if_neg hs]
      refine ⟨Nat.le_refl _, I.most, fun _ θ ρ S => hs ?_⟩; have h1 := S.regs i y x c2 hy hx; rw [hsub, ← hsw θ S.sol, subT_node θ h0] at h1
      have hargs : (walkT st.l y).args = [] := by
        have := congrArg args h1; simp only [args_mk] at this; have h2 := congrArg List.length this; rw [List.length_map, hca] at h2; exact List.eq_nil_of_length_eq_zero h2
      have he : walkT st.l y = c := by
        rw [← h1]; exact ext_mk rfl rfl rfl (by rw [hargs]; rfl)
      unfold sameB; rw [he, hg, (same_unit c c).2 rfl]; rfl
theorem val_step (hx : (regs t.args)[i]? = some x) (hk : x.kind = 0) (hxb : x.bare = V x.n) (hv : x.n ∈ t.vars) (hm : x.n ∈ met t.args i) (I : MInv t i st) : MStep t i x st (valM st (st.ss.getD (posOf t.vars x.n) (V 0)) (walkT st.l (st.rs.getD i (V 0)))) := by
  obtain ⟨c1, c2, c3, c4⟩ := cb_next hx; obtain ⟨y, hy, hgd, ho, how, hfree, hsw⟩ := walk_facts I c2; rw [hgd]
  have hps : posOf t.vars x.n < st.ss.length := by rw [I.sl]; exact List.idxOf_lt_length_of_mem hv
  have hz : st.ss[posOf t.vars x.n]? = some st.ss[posOf t.vars x.n] := List.getElem?_eq_getElem hps; rw [List.getD_eq_getElem?_getD, hz, Option.getD_some]; generalize st.ss[posOf t.vars x.n] = z at hz; have hzo := I.slots _ hm z hz
  have ha : x.args.length = 0 := by
    have := congrArg (fun q => q.args.length) hxb; simp only [bare_arity] at this; exact this
  have hsub : ∀ ρ, subT ρ x.bare = ρ x.n := fun ρ => by rw [hxb, subT_V1]
  have hspec := unify_spec I.most (2000 + 1) st.l 2000 [(z, walkT st.l y)] I.ok (fun p hp => by rw [List.mem_singleton] at hp; rw [hp]; exact ⟨hzo, how⟩) (unify st.l 2000 [(z, walkT st.l y)]) rfl
  have hall : ∀ θ, allEq θ [(z, walkT st.l y)] ↔ subT θ z = subT θ (walkT st.l y) := fun θ => by unfold allEq; simp
  have hb : bothR st.m st.l z (walkT st.l y) = (match unify st.l 2000 [(z, walkT st.l y)] with | .ok l' left' => (true, 2000 - (left' : Int), 0, l') | .no q => (false, 2000 - (q : Int), 0, st.l) | .over => (false, 0, 12, st.l)) := by
    unfold bothR; refine (if_pos ⟨hzo, how⟩).trans ?_
    cases unify st.l 2000 [(z, walkT st.l y)] <;> rfl
  unfold valM; rw [hb]; revert hspec
  cases unify st.l 2000 [(z, walkT st.l y)] with
  | ok l' left' =>
    intro hspec; obtain ⟨s1, s2, _, s3⟩ := hspec; rw [if_pos ⟨rfl, rfl⟩]; refine MNext.trail hx ha (.inr hm) I s1 s2 ?_ ?_
    · intro θ ρ hs h3 y' hy'
      rw [hy] at hy'; injection hy' with hy'; subst hy'
      obtain ⟨q1, q2⟩ := (s3 θ).1 hs; rw [hsub, ← h3 hk z hz, (hall θ).1 q2, hsw θ q1]
    · intro θ ρ S
      refine (s3 θ).2 ⟨S.sol, (hall θ).2 ?_⟩; rw [S.slots _ hm z hz, hsw θ S.sol, S.regs i y x c2 hy hx, hsub]
  | no q =>
    intro hspec; rw [if_neg (fun c => by cases c.1)]; refine ⟨Nat.le_refl _, I.most, fun _ θ ρ S => hspec θ S.sol ((hall θ).2 ?_)⟩; rw [S.slots _ hm z hz, hsw θ S.sol, S.regs i y x c2 hy hx, hsub]
  | over =>
    intro hspec; rw [if_neg (fun c => by cases c.1)]; exact ⟨Nat.le_refl _, I.most, fun e => by cases e⟩
theorem var_step (hx : (regs t.args)[i]? = some x) (hk : x.kind = 0) (hxb : x.bare = V x.n) (hv : x.n ∈ t.vars) (hmv : ∀ v ∈ met t.args i, v ∈ t.vars) (hm : x.n ∉ met t.args i) (I : MInv t i st) : MStep t i x st (.go ⟨st.m, st.l, st.rs, st.ss.set (posOf t.vars x.n) (walkT st.l (st.rs.getD i (V 0)))⟩) := by
  obtain ⟨c1, c2, c3, c4⟩ := cb_next hx; obtain ⟨y, hy, hgd, ho, how, hfree, hsw⟩ := walk_facts I c2; rw [hgd]
  have hps : posOf t.vars x.n < st.ss.length := by rw [I.sl]; exact List.idxOf_lt_length_of_mem hv
  have ha : x.args.length = 0 := by
    have := congrArg (fun q => q.args.length) hxb; simp only [bare_arity] at this; exact this
  have hc : cb t.args (i + 1) = cb t.args i := by omega
  have hsub : ∀ ρ, subT ρ x.bare = ρ x.n := fun ρ => by rw [hxb, subT_V1]
  have hmet : met t.args (i + 1) = met t.args i ++ [x.n] := by rw [met_succ hx]; unfold addVar; rw [if_pos ⟨hk, hm⟩]
  have hself : (st.ss.set (posOf t.vars x.n) (walkT st.l y))[posOf t.vars x.n]? = some (walkT st.l y) := List.getElem?_set_self hps
  have hoth : ∀ v ∈ met t.args i, (st.ss.set (posOf t.vars x.n) (walkT st.l y))[posOf t.vars v]? = st.ss[posOf t.vars v]? := by
    intro v hvm; refine List.getElem?_set_ne (fun e => hm ?_); have p1 := posOf_mem (hmv v hvm); have p2 := posOf_mem hv; rw [← e, p2] at p1
    injection p1 with p1
    rw [p1]; exact hvm
  refine ⟨⟨I.ok, I.most, I.rl, by rw [List.length_set]; exact I.sl, by rw [hc]; exact I.own, ?_⟩, Nat.le_refl _, ⟨[], rfl⟩, fun _ _ => rfl, hoth, ?_, ?_⟩
  · rw [hmet]
    intro v hvm z hz
    rcases List.mem_append.1 hvm with h | h
    · rw [hoth v h] at hz; exact I.slots v h z hz
    · rw [List.mem_singleton] at h; subst h
      rw [hself] at hz; injection hz with hz; subst hz; exact how
  · intro θ ρ hs _ h3 y' hy'
    rw [hy] at hy'; injection hy' with hy'; subst hy'
    rw [hsub, ← h3 hk _ hself, hsw θ hs]
  · intro θ ρ S
    refine ⟨θ, fun _ _ => rfl, S.sol, by rw [hc]; exact S.regs, ?_⟩; rw [hmet]; intro v hvm z hz
    rcases List.mem_append.1 hvm with h | h
    · rw [hoth v h] at hz; exact S.slots v h z hz
    · rw [List.mem_singleton] at h; subst h
      rw [hself] at hz; injection hz with hz; subst hz
      rw [hsw θ S.sol, S.regs i y x c2 hy hx, hsub]
theorem comp_step (hx : (regs t.args)[i]? = some x) (hk : x.kind = 2) (hn : x.n = 0) (ha : x.args.length ≠ 0) (I : MInv t i st) : MStep t i x st (compM st (walkT st.l (st.rs.getD i (V 0))) ⟨sComp, i, x.args.length, cb t.args i, 0, x.name⟩) := by
  obtain ⟨c1, c2, c3, c4⟩ := cb_next hx; obtain ⟨y, hy, hgd, ho, how, hfree, hsw⟩ := walk_facts I c2; rw [hgd]
  have hmet : met t.args (i + 1) = met t.args i := by rw [met_succ hx]; unfold addVar; rw [if_neg (fun c => by omega)]
  have hrl := I.rl
  have hsub : ∀ ρ, subT ρ x.bare = .mk 2 0 x.name () (x.args.map fun r => subT ρ r.bare) := by
    intro ρ
    have hk' : ¬ x.bare.kind = 0 := by rw [bare_kind]; omega
    rw [subT_node ρ hk', bare_kind, bare_n, bare_name, bare_args, bares_eq, List.map_map, hk, hn]; rfl
  unfold compM; simp only [Int.toNat_natCast]
  by_cases h0 : (walkT st.l y).kind = 0
  · rw [if_pos h0]
    have hv : walkT st.l y = V (walkT st.l y).n := (ownB_var how h0).2.2; have hvlt := (ownB_var how h0).2.1
    by_cases hm : st.m + x.args.length ≤ 65536
    · rw [if_pos hm]
      by_cases he : setE (st.m + x.args.length) st.l (walkT st.l y).n (newT ⟨sComp, i, x.args.length, cb t.args i, 0, x.name⟩ st.m) = 0
      · rw [if_pos he]
        have hnt : newT ⟨sComp, i, x.args.length, cb t.args i, 0, x.name⟩ st.m = .mk 2 0 x.name () (news st.m x.args.length) := by unfold newT; simp only [Int.toNat_natCast]
        have hok := setE_ok (I.ok.more (Nat.le_add_right _ _)) he; rw [hnt] at he hok ⊢
        have hle : cb t.args i + (news st.m x.args.length).length ≤ st.rs.length := by rw [news_length]; omega
        have hold : ∀ j, j < cb t.args i → (putAt st.rs (cb t.args i) (news st.m x.args.length))[j]? = st.rs[j]? := fun j hj => putAt_old hle hj
        have hnew : ∀ j, j < x.args.length → (putAt st.rs (cb t.args i) (news st.m x.args.length))[cb t.args i + j]? = some (V ((st.m + j : Nat) : Int)) := fun j hj => (putAt_new hle (by rw [news_length]; exact hj)).trans (news_at hj)
        refine ⟨⟨hok, hm, by rw [putAt_length hle]; exact hrl, I.sl, ?_, ?_⟩, Nat.le_add_right _ _, ⟨[_], rfl⟩, hold, fun _ _ => rfl, ?_, ?_⟩
        · intro j z hj hz
          rcases Nat.lt_or_ge j (cb t.args i) with h | h
          · rw [hold j h] at hz; exact ownB_more (I.own j z h hz) (Nat.le_add_right _ _)
          · have := hnew (j - cb t.args i) (by omega)
            rw [show cb t.args i + (j - cb t.args i) = j by omega, hz] at this
            injection this with this
            rw [this]; exact ownB_V (by omega) (by show ((st.m + (j - cb t.args i) : Nat) : Int) < ((st.m + x.args.length : Nat) : Int); omega) hm
        · rw [hmet]
          exact fun v hvm z hz => ownB_more (I.slots v hvm z hz) (Nat.le_add_right _ _)
        · intro θ ρ hs h2 _ y' hy'
          rw [hy] at hy'; injection hy' with hy'; subst hy'
          obtain ⟨s1, s2⟩ := solves_cons.1 hs; rw [hsub, ← hsw θ s2, hv, subT_V1]; simp only at s1; rw [s1, subT_node θ (by simp only [kind]; omega)]; simp only [kind_mk, n_mk, name_mk, args_mk]; congr 1; refine List.ext_getElem? (fun j => ?_); rw [List.getElem?_map, List.getElem?_map]
          by_cases hj : j < x.args.length
          · have hr : x.args[j]? = some x.args[j] := List.getElem?_eq_getElem hj
            rw [news_at hj, hr, Option.map_some, Option.map_some, h2 j hj _ _ (hnew j hj) hr]
          · rw [List.getElem?_eq_none (by rw [news_length]; omega), List.getElem?_eq_none (by omega)]
            rfl
        · intro θ ρ S
          let θ' : Int → Tm Unit := fun v => if v < (st.m : Int) then θ v else match x.args[(v - (st.m : Int)).toNat]? with | none => θ v | some r => subT ρ r.bare
          have hag : ∀ v, v < (st.m : Int) → θ' v = θ v := fun v hv => by show (if v < (st.m : Int) then θ v else _) = _; rw [if_pos hv]
          have hfr : ∀ j r, x.args[j]? = some r → θ' ((st.m + j : Nat) : Int) = subT ρ r.bare := by
            intro j r hr; show (if ((st.m + j : Nat) : Int) < (st.m : Int) then θ _ else _) = _; rw [if_neg (by omega), show (((st.m + j : Nat) : Int) - (st.m : Int)).toNat = j by omega, hr]
          have h1 := S.regs i y x c2 hy hx; refine ⟨θ', hag, solves_cons.2 ⟨?_, solves_own I.ok hag S.sol⟩, ?_, ?_⟩
          · show θ' (walkT st.l y).n = subT θ' (.mk 2 0 x.name () (news st.m x.args.length))
            rw [hag _ hvlt]; rw [hsub, ← hsw θ S.sol, hv, subT_V1] at h1; rw [h1, subT_node θ' (by simp only [kind]; omega)]; simp only [kind_mk, n_mk, name_mk, args_mk]; congr 1; refine List.ext_getElem? (fun j => ?_); rw [List.getElem?_map, List.getElem?_map]
            by_cases hj : j < x.args.length
            · have hr : x.args[j]? = some x.args[j] := List.getElem?_eq_getElem hj
              rw [news_at hj, hr, Option.map_some, Option.map_some, subT_V1, hfr j _ hr]
            · rw [List.getElem?_eq_none (l := news _ _) (by rw [news_length]; omega), List.getElem?_eq_none (by omega)]
              rfl
          · intro j z r hj hz hr
            rcases Nat.lt_or_ge j (cb t.args i) with h | h
            · rw [hold j h] at hz
              rw [subT_own (I.own j z h hz) hag]; exact S.regs j z r h hz hr
            · have hj' : j - cb t.args i < x.args.length := by omega
              have h5 := hnew (j - cb t.args i) hj'; have h6 := c4 (j - cb t.args i) hj'; rw [show cb t.args i + (j - cb t.args i) = j by omega] at h5 h6
              rw [hz] at h5; injection h5 with h5
              rw [hr] at h6; rw [h5, subT_V1, hfr _ r h6.symm]
          · rw [hmet]
            intro v hvm z hz; rw [subT_own (I.slots v hvm z hz) hag]; exact S.slots v hvm z hz
      · rw [if_neg he]
        exact ⟨Nat.le_add_right _ _, hm, fun e => absurd e he⟩
    · rw [if_neg hm]
      exact ⟨I.most, Nat.le_refl _, fun e => by cases e⟩
  · rw [if_neg h0]
    have hargs : ∀ z ∈ (walkT st.l y).args, ownB st.m z = true := fun z hz => ownB_arg how h0 hz
    have hnode : ∀ θ, solves θ st.l → subT θ y = .mk (walkT st.l y).kind (walkT st.l y).n (walkT st.l y).name () ((walkT st.l y).args.map (subT θ)) := fun θ hs => by rw [← hsw θ hs, subT_node θ h0]
    by_cases hc : (walkT st.l y).name = x.name ∧ ((walkT st.l y).args.length : Int) = (x.args.length : Int)
    · rw [if_pos hc]
      obtain ⟨hcn, hcl⟩ := hc
      have hcl : (walkT st.l y).args.length = x.args.length := by omega
      have hk2 : (walkT st.l y).kind = 2 ∧ (walkT st.l y).n = 0 := by
        have := one_args (good_ones' (ownB_iff.1 how).1 _ (by rw [flat_eq]; exact List.mem_cons_self ..)) (fun e => by rw [e] at hcl; simp at hcl; omega); exact ⟨this.1, this.2.1⟩
      have hle : cb t.args i + (walkT st.l y).args.length ≤ st.rs.length := by omega
      have hold : ∀ j, j < cb t.args i → (putAt st.rs (cb t.args i) (walkT st.l y).args)[j]? = st.rs[j]? := fun j hj => putAt_old hle hj
      have hnew : ∀ j, j < x.args.length → (putAt st.rs (cb t.args i) (walkT st.l y).args)[cb t.args i + j]? = (walkT st.l y).args[j]? := fun j hj => putAt_new hle (by omega)
      refine ⟨⟨I.ok, I.most, by rw [putAt_length hle]; exact hrl, I.sl, ?_, by rw [hmet]; exact I.slots⟩, Nat.le_refl _, ⟨[], rfl⟩, hold, fun _ _ => rfl, ?_, ?_⟩
      · intro j z hj hz
        rcases Nat.lt_or_ge j (cb t.args i) with h | h
        · rw [hold j h] at hz; exact I.own j z h hz
        · have := hnew (j - cb t.args i) (by omega)
          rw [show cb t.args i + (j - cb t.args i) = j by omega, hz] at this; exact hargs z (List.mem_of_getElem? this.symm)
      · intro θ ρ hs h2 _ y' hy'
        rw [hy] at hy'; injection hy' with hy'; subst hy'
        rw [hsub, hnode θ hs, hk2.1, hk2.2, hcn]; congr 1; refine List.ext_getElem? (fun j => ?_); rw [List.getElem?_map, List.getElem?_map]
        by_cases hj : j < x.args.length
        · have hr : x.args[j]? = some x.args[j] := List.getElem?_eq_getElem hj
          have hz : (walkT st.l y).args[j]? = some ((walkT st.l y).args[j]'(by omega)) := List.getElem?_eq_getElem _; rw [hz, hr, Option.map_some, Option.map_some, h2 j hj _ _ ((hnew j hj).trans hz) hr]
        · rw [List.getElem?_eq_none (by omega), List.getElem?_eq_none (by omega)]
          rfl
      · intro θ ρ S
        refine ⟨θ, fun _ _ => rfl, S.sol, ?_, by rw [hmet]; exact S.slots⟩; have h1 := S.regs i y x c2 hy hx; rw [hsub, hnode θ S.sol] at h1; have h7 := congrArg args h1; simp only [args_mk] at h7; intro j z r hj hz hr
        rcases Nat.lt_or_ge j (cb t.args i) with h | h
        · rw [hold j h] at hz; exact S.regs j z r h hz hr
        · have hj' : j - cb t.args i < x.args.length := by omega
          have h5 := hnew (j - cb t.args i) hj'; have h6 := c4 (j - cb t.args i) hj'; rw [show cb t.args i + (j - cb t.args i) = j by omega] at h5 h6; rw [hz] at h5; rw [hr] at h6; have h8 := congrArg (fun q => q[j - cb t.args i]?) h7; simp only [List.getElem?_map] at h8; rw [← h5, ← h6, Option.map_some, Option.map_some] at h8; injection h8
    · rw [if_neg hc]
      refine ⟨Nat.le_refl _, I.most, fun _ θ ρ S => hc ?_⟩; have h1 := S.regs i y x c2 hy hx; rw [hsub, hnode θ S.sol] at h1; have h7 := congrArg (fun q => q.args.length) h1; have h8 := congrArg name h1; simp only [args_mk, name_mk, List.length_map] at h7 h8; exact ⟨h8, by omega⟩
end
end Tm
end Go.Proofs.Ytoihjobdfjajfaa
namespace Go.Proofs.Ytoihjobdfjajfaa
namespace Tm
section
variable {α : Type} {t : Tm α} {i : Nat} {x : Tm α} {st : MS}
theorem met_vars {i : Nat} {v : Int} (h : v ∈ met t.args i) : v ∈ t.vars := by
  obtain ⟨y, hy, h0, rfl⟩ := mem_met h; exact (mem_fold _ _ _).2 (.inr ⟨_, by rw [flat_eq]; exact List.mem_cons_of_mem _ hy, h0, rfl⟩)
theorem leaf_bare {x : Tm α} (h : x.args.length = 0) : x.bare = .mk x.kind x.n x.name () [] := by
  cases x with | mk k n s e aa =>
  simp only [args_mk] at h; obtain rfl : aa = [] := List.eq_nil_of_length_eq_zero h; rfl
theorem goodB_leaf {c : Tm Unit} (h : goodOneB c = true) (ha : c.args = []) : goodB c = true := by
  unfold goodB; rw [size_eq, depth_eq, flat_eq, ha]; simp only [sizes, depths, flats, List.all_cons, List.all_nil, h]; decide
theorem step_head (hg : goodB t = true) (hx : (regs t.args)[i]? = some x) (I : MInv t i st) : MStep t i x st (stepM st (stepX t.vars t.args i x)) := by
  have hmem : x ∈ t.flat := by rw [flat_eq]; exact List.mem_cons_of_mem _ (regs_flats x (List.mem_of_getElem? hx))
  have hones : ∀ y ∈ t.flat, goodOneB y = true := by
    unfold goodB at hg; simp only [Bool.and_eq_true, decide_eq_true_eq, List.all_eq_true] at hg; exact hg.2.2
  have hone := hones x hmem; obtain ⟨n1, n2, n3, n4, n5, n6, n7, n8, n9, n10⟩ := ne_ops
  have hob : goodOneB x.bare = true := by rw [goodOneB_bare]; exact hone
  unfold stepM stepX
  by_cases h0 : x.kind = 0
  · have hxv : x.n ∈ t.vars := (mem_fold _ _ _).2 (.inr ⟨_, hmem, h0, rfl⟩)
    have hxb : x.bare = V x.n := by
      have := leafy_good (t := x.bare) (fun y hy => ?_)
      · have h2 := leafy_self this (by rw [bare_kind]; exact h0)
        rw [bare_n] at h2; exact h2
      · rw [goodOneB_0 x h0] at hone
        simp only [Bool.and_eq_true, decide_eq_true_eq] at hone; rw [leaf_bare hone.2.2.2] at hy hob; simp only [flat, flats, List.mem_singleton] at hy; rw [hy]; exact hob
    rw [if_pos h0]; simp only [Int.toNat_natCast]
    by_cases hm : x.n ∈ met t.args i
    · rw [if_pos hm, if_neg n1, if_pos rfl]
      exact val_step hx h0 hxb hxv hm I
    · rw [if_neg hm, if_pos rfl]
      exact var_step hx h0 hxb hxv (fun v hv => met_vars hv) hm I
  · rw [if_neg h0]
    by_cases h1 : x.kind = 1
    · rw [goodOneB_1 x h1] at hone
      simp only [Bool.and_eq_true, decide_eq_true_eq] at hone; have hb := leaf_bare hone.2; rw [h1, (bytes_nil _).1 hone.1] at hb; rw [if_pos h1, if_neg n2, if_neg n3, if_pos rfl]; simp only [Int.toNat_natCast]; rw [hb] at hob; exact tie_step hx (goodB_leaf hob rfl) (by simp only [kind]; omega) rfl hb I
    · have h2 : x.kind = 2 := by
        by_cases h2 : x.kind = 2
        · exact h2
        · rw [goodOneB_3 x h0 h1 h2] at hone; cases hone
      rw [goodOneB_2 x h2] at hone; simp only [Bool.and_eq_true, decide_eq_true_eq] at hone; rw [if_neg h1]
      by_cases ha : x.args.length = 0
      · have hb := leaf_bare ha
        rw [h2, hone.1] at hb; rw [if_pos ha, if_neg n4, if_neg n5, if_neg n6, if_pos rfl]; simp only [Int.toNat_natCast]; rw [hb] at hob; exact tie_step hx (goodB_leaf hob rfl) (by simp only [kind]; omega) rfl hb I
      · rw [if_neg ha, if_neg n7, if_neg n8, if_neg n9, if_neg n10]
        have := comp_step hx h2 hone.1 ha I; simpa only [Int.toNat_natCast] using this
end
section
variable {α : Type} {t : Tm α} {m : Nat} {a : List (Tm Unit)}
def startM (t : Tm α) (m : Nat) (a : List (Tm Unit)) : MS := ⟨m, [], putAt (List.replicate (sizes t.args) (V 0)) 0 a, List.replicate t.vars.length (V 0)⟩
theorem lens_le (l : List (Tm α)) : l.length ≤ sizes l := by
  have := cb_le (l := l) (Nat.zero_le _); rw [cb_zero] at this; exact this
theorem start_inv (hm : m ≤ 65536) (hl : a.length = t.args.length) (ha : ∀ z ∈ a, ownB m z = true) : MInv t 0 (startM t m a) := by
  have hle : 0 + a.length ≤ (List.replicate (sizes t.args) (V 0)).length := by rw [List.length_replicate]; have := lens_le t.args; omega
  refine ⟨trivial, hm, by unfold startM; rw [putAt_length hle, List.length_replicate], by unfold startM; rw [List.length_replicate], ?_, ?_⟩
  · intro j y hj hy
    rw [cb_zero] at hj; have := putAt_new hle (j := j) (by omega); rw [Nat.zero_add] at this; unfold startM at hy; rw [this] at hy; exact ha y (List.mem_of_getElem? hy)
  · intro v hv
    unfold met at hv; simp at hv
theorem start_at (hl : a.length = t.args.length) {j : Nat} (hj : j < a.length) : (startM t m a).rs[j]? = a[j]? := by
  have hle : 0 + a.length ≤ (List.replicate (sizes t.args) (V 0)).length := by rw [List.length_replicate]; have := lens_le t.args; omega
  have := putAt_new hle (j := j) hj; rw [Nat.zero_add] at this; exact this
noncomputable def matchR (t : Tm α) (m : Nat) (a : List (Tm Unit)) : MR := runM (startM t m a) (steps t.vars t.args (sizes t.args))
theorem vars_met (hk : t.kind ≠ 0) {v : Int} (h : v ∈ t.vars) : v ∈ met t.args (sizes t.args) := by
  unfold met; rw [List.take_of_length_le (by rw [regs_length]; exact Nat.le_refl _), mem_fold]
  rcases (mem_fold _ _ _).1 h with h | ⟨x, h, h3⟩
  · cases h
  · rw [flat_eq] at h
    rcases List.mem_cons.1 h with rfl | h
    · exact absurd h3.1 hk
    · exact .inr ⟨x, (regs_perm _).mem_iff.2 h, h3⟩
end
section
variable {α : Type} {t : Tm α} {i m : Nat} {st : MS}
structure MSelf (t : Tm α) (m i : Nat) (st : MS) : Prop where
  m : st.m = m
  l : st.l = []
  rl : st.rs.length = sizes t.args
  sl : st.ss.length = t.vars.length
  rs : ∀ j r, j < cb t.args i → (Tm.regs t.args)[j]? = some r → st.rs[j]? = some r.bare
  ss : ∀ v ∈ met t.args i, st.ss[posOf t.vars v]? = some (V v)
theorem walk_nil (x : Tm Unit) : walkT [] x = x := walkT_stop (fun _ => rfl)
theorem unify_self (v : Int) : unify [] 2000 [(V v, V v)] = .ok [] 1999 := by
  have : oneU [] 1999 (walkT [] (V v)) (walkT [] (V v)) = .done (.ok [] 1999) := by
    rw [walk_nil]; unfold oneU V; simp only [kind, if_pos]
  rw [unify_ok (left := 1999) this, unify_nil]
theorem self_step (hg : goodB t = true) (hv : ∀ v ∈ t.vars, v < (m : Int)) (hm : m ≤ 65536) {x : Tm α} (hx : (regs t.args)[i]? = some x) (I : MSelf t m i st) : ∃ st', stepM st (stepX t.vars t.args i x) = .go st' ∧ MSelf t m (i + 1) st' := by
  have hmem : x ∈ t.flat := by rw [flat_eq]; exact List.mem_cons_of_mem _ (regs_flats x (List.mem_of_getElem? hx))
  have hones : ∀ y ∈ t.flat, goodOneB y = true := by
    unfold goodB at hg; simp only [Bool.and_eq_true, decide_eq_true_eq, List.all_eq_true] at hg; exact hg.2.2
  have hone := hones x hmem; obtain ⟨n1, n2, n3, n4, n5, n6, n7, n8, n9, n10⟩ := ne_ops; obtain ⟨c1, c2, c3, c4⟩ := cb_next hx
  have hob : goodOneB x.bare = true := by rw [goodOneB_bare]; exact hone
  have hri := I.rs i x c2 hx
  have hwalk : walkT st.l (st.rs.getD i (V 0)) = x.bare := by rw [I.l, walk_nil, List.getD_eq_getElem?_getD, hri]; rfl
  have hrl := I.rl
  have hmet : x.kind ≠ 0 → met t.args (i + 1) = met t.args i := fun h => by rw [met_succ hx]; unfold addVar; rw [if_neg (fun c => h c.1)]
  have same : x.args.length = 0 → x.kind ≠ 0 → MSelf t m (i + 1) st := fun ha h => ⟨I.m, I.l, I.rl, I.sl, by rw [c1, ha]; exact I.rs, by rw [hmet h]; exact I.ss⟩
  unfold stepM stepX
  by_cases h0 : x.kind = 0
  · have hxv : x.n ∈ t.vars := (mem_fold _ _ _).2 (.inr ⟨_, hmem, h0, rfl⟩)
    have hone' := hone; rw [goodOneB_0 x h0] at hone'; simp only [Bool.and_eq_true, decide_eq_true_eq] at hone'
    have hxb : x.bare = V x.n := by
      rw [leaf_bare hone'.2.2.2, h0, (bytes_nil _).1 hone'.2.2.1]; rfl
    rw [if_pos h0]; simp only [Int.toNat_natCast, hwalk]
    have hps : posOf t.vars x.n < st.ss.length := by rw [I.sl]; exact List.idxOf_lt_length_of_mem hxv
    by_cases hmm : x.n ∈ met t.args i
    · rw [if_pos hmm, if_neg n1, if_pos rfl]
      have hz := I.ss _ hmm
      have hown : ownB st.m (V x.n) = true := by rw [I.m]; exact ownB_V hone'.1 (hv _ hxv) hm
      rw [List.getD_eq_getElem?_getD, hz, Option.getD_some, hxb]
      have hb : bothR st.m st.l (V x.n) (V x.n) = (true, 2000 - ((1999 : Nat) : Int), 0, []) := by
        unfold bothR; rw [if_pos ⟨hown, hown⟩, I.l, unify_self]
      unfold valM; rw [hb, if_pos ⟨rfl, rfl⟩]; refine ⟨_, rfl, I.m, rfl, I.rl, I.sl, by rw [c1, hone'.2.2.2]; exact I.rs, ?_⟩
      have : met t.args (i + 1) = met t.args i := by rw [met_succ hx]; unfold addVar; rw [if_neg (fun c => c.2 hmm)]
      rw [this]; exact I.ss
    · rw [if_neg hmm, if_pos rfl]
      refine ⟨_, rfl, I.m, I.l, I.rl, by simp only [List.length_set]; exact I.sl, by rw [c1, hone'.2.2.2]; exact I.rs, ?_⟩; rw [met_succ hx]; unfold addVar; rw [if_pos ⟨h0, hmm⟩]; intro v hvm
      rcases List.mem_append.1 hvm with h | h
      · show (st.ss.set _ _)[_]? = _
        rw [List.getElem?_set_ne (fun e => hmm ?_)]
        · exact I.ss v h
        · have p1 := posOf_mem (met_vars h)
          have p2 := posOf_mem hxv; rw [← e, p2] at p1
          injection p1 with p1
          rw [p1]; exact h
      · rw [List.mem_singleton] at h; subst h
        show (st.ss.set _ _)[_]? = _; rw [List.getElem?_set_self hps, hxb]
  · rw [if_neg h0]
    have tie : ∀ c : Tm Unit, x.bare = c → goodB c = true → x.args.length = 0 → ∃ st', tieM st x.bare c = .go st' ∧ MSelf t m (i + 1) st' := by
      intro c hb hgc ha; refine ⟨st, ?_, same ha h0⟩; unfold tieM; rw [if_neg (by rw [bare_kind]; exact h0), hb]
      have : sameB c c = true := by unfold sameB; rw [hgc, (same_unit c c).2 rfl]; rfl
      rw [if_pos this]
    by_cases h1 : x.kind = 1
    · rw [goodOneB_1 x h1] at hone
      simp only [Bool.and_eq_true, decide_eq_true_eq] at hone; have hb := leaf_bare hone.2; rw [h1, (bytes_nil _).1 hone.1] at hb; rw [if_pos h1, if_neg n2, if_neg n3, if_pos rfl]; simp only [Int.toNat_natCast, hwalk]; exact tie _ hb (by rw [← hb]; exact goodB_leaf hob (by rw [hb]; rfl)) hone.2
    · have h2 : x.kind = 2 := by
        by_cases h2 : x.kind = 2
        · exact h2
        · rw [goodOneB_3 x h0 h1 h2] at hone; cases hone
      rw [goodOneB_2 x h2] at hone; simp only [Bool.and_eq_true, decide_eq_true_eq] at hone; rw [if_neg h1]
      by_cases ha : x.args.length = 0
      · have hb := leaf_bare ha
        rw [h2, hone.1] at hb; rw [if_pos ha, if_neg n4, if_neg n5, if_neg n6, if_pos rfl]; simp only [Int.toNat_natCast, hwalk]; exact tie _ hb (by rw [← hb]; exact goodB_leaf hob (by rw [hb]; rfl)) ha
      · rw [if_neg ha, if_neg n7, if_neg n8, if_neg n9, if_neg n10]
        simp only [Int.toNat_natCast, hwalk]; unfold compM; simp only [Int.toNat_natCast]
        have hal : x.bare.args.length = x.args.length := by rw [bare_args, bares_length]
        rw [if_neg (by rw [bare_kind]; exact h0), if_pos ⟨bare_name x, by rw [hal]⟩]
        have hle : cb t.args i + x.bare.args.length ≤ st.rs.length := by omega
        refine ⟨_, rfl, I.m, I.l, by simp only []; rw [putAt_length hle]; exact hrl, I.sl, ?_, by rw [hmet h0]; exact I.ss⟩; intro j r hj hr; show (putAt _ _ _)[j]? = _
        rcases Nat.lt_or_ge j (cb t.args i) with h | h
        · rw [putAt_old hle h]; exact I.rs j r h hr
        · have hj' : j - cb t.args i < x.args.length := by omega
          have h5 := putAt_new hle (j := j - cb t.args i) (by omega); have h6 := c4 (j - cb t.args i) hj'; rw [show cb t.args i + (j - cb t.args i) = j by omega] at h5 h6; rw [h5, bare_args, bares_eq, List.getElem?_map, ← h6, hr]; rfl
theorem self_run (hg : goodB t = true) (hv : ∀ v ∈ t.vars, v < (m : Int)) (hm : m ≤ 65536) : ∀ j i st, i + j = sizes t.args → MSelf t m i st → ∃ st', runM st ((List.range' i j).map (stepAt t.vars t.args)) = .go st' ∧ MSelf t m (sizes t.args) st' := by
  intro j
  induction j with
  | zero =>
    intro i st hi I
    obtain rfl : i = sizes t.args := by omega
    exact ⟨st, rfl, I⟩
  | succ j ih =>
    intro i st hi I; obtain ⟨x, hx, _, _⟩ := regs_some (l := t.args) (i := i) (by omega); rw [List.range'_succ, List.map_cons]
    have hs : stepAt t.vars t.args i = stepX t.vars t.args i x := by unfold stepAt; rw [hx]
    obtain ⟨st1, h1, I1⟩ := self_step hg hv hm hx I; rw [hs, runM, h1]; exact ih (i + 1) st1 (by omega) I1
theorem self_match (hg : goodB t = true) (hk : t.kind = 2) (hv : ∀ v ∈ t.vars, v < (m : Int)) (hm : m ≤ 65536) : ∃ st, matchR t m (t.args.map bare) = .go st ∧ st.m = m ∧ st.l = [] ∧ st.ss = t.vars.map V := by
  have hl : (t.args.map bare).length = t.args.length := List.length_map ..
  have hle : 0 + (t.args.map bare).length ≤ (List.replicate (sizes t.args) (V 0)).length := by rw [List.length_replicate]; have := lens_le t.args; omega
  have hln := lens_le t.args
  have I : MSelf t m 0 (startM t m (t.args.map bare)) := by
    refine ⟨rfl, rfl, by unfold startM; rw [putAt_length hle, List.length_replicate], by unfold startM; rw [List.length_replicate], ?_, ?_⟩
    · intro j r hj hr
      rw [cb_zero] at hj; rw [start_at hl (j := j) (by omega)]; rw [regs_zero hj] at hr; rw [List.getElem?_map, hr]; rfl
    · intro v hv'
      unfold met at hv'; simp at hv'
  unfold matchR steps; rw [List.range_eq_range']; obtain ⟨st, h1, I'⟩ := self_run hg hv hm (sizes t.args) 0 _ (by omega) I; refine ⟨st, h1, I'.m, I'.l, ?_⟩; refine List.ext_getElem? (fun j => ?_); rw [List.getElem?_map]
  by_cases hj : j < t.vars.length
  · have hvj : t.vars[j]? = some t.vars[j] := List.getElem?_eq_getElem hj
    have := I'.ss t.vars[j] (vars_met (t := t) (by omega) (List.getElem_mem hj)); rw [posOf_at (vars_nodup t) hvj] at this; rw [this, hvj]; rfl
  · have e1 := I'.sl
    rw [List.getElem?_eq_none (l := st.ss) (i := j) (by omega), List.getElem?_eq_none (l := t.vars) (i := j) (by omega)]; rfl
end
end Tm
end Go.Proofs.Ytoihjobdfjajfaa
namespace Go.Proofs.Ytoihjobdfjajfaa
open Go.RowKit Go.Maps
theorem good_slimB {t : LT} (h : goodB t.bare = true) : slim t := by
  intro x hx; have h1 := Tm.good_ones' h x.bare (by rw [Tm.flat_bare]; exact List.mem_map_of_mem hx); rw [goodOneB_bare] at h1
  by_cases ha : x.args = []
  · rw [ha]; exact Nat.zero_le _
  · have := (Tm.one_args h1 ha).2.2; omega
theorem wholeVal {p O : Nat → Prop} {bb m : Nat} {l : TL} {w : World} {t : LT} {E : Int} (h : BO p bb O m l w) (ht : t.In p w) (hs : slim t) (hE : wholeE m (bt l) t.bare = E) :
    Calls Try.prog 89 #[.pointer (some ⟨bb, 0, none⟩), .agg #[.int .i64 t.kind, .int .i64 t.n, .string t.name, .slice t.at_.1 t.args.length t.at_.2]] w fun e w' => ∃ u : LT, e = .returned (.tuple #[.agg #[.int .i64 u.kind, .int .i64 u.n, .string u.name, .slice u.at_.1 u.args.length u.at_.2], .int .i64 E]) ∧ u.bare = wholeT m (bt l) t.bare ∧ u.In (fun k => p k ∨ w.heap.size ≤ k) w' ∧ Turned (fun _ => False) w w' := by
  have := wholeO89 h ht hs; rw [LT.val_eq, hE] at this
  exact this.mono fun e w' ⟨u, h1, h2⟩ => ⟨u, by rw [h1, LT.val_eq], h2⟩
theorem varsVal {p : Nat → Prop} {w : World} {u : LT} (hu : u.In p w) (hg : goodB u.bare = true) :
    Calls Try.prog 34 #[.agg #[.int .i64 u.kind, .int .i64 u.n, .string u.name, .slice u.at_.1 u.args.length u.at_.2]] w fun e w' => ∃ (va : Option Addr) (vc : Nat), e = .returned (.slice va u.vars.length vc) ∧ Row w' 2 1 (.slice va u.vars.length vc) u.vars.length (u.vars.map (Value.int .i64)) ∧ Turned (fun _ => False) w w' := by
  have hg' : goodB u = true := by rw [← goodB_bare]; exact hg
  have := vars34 hu (good_slimB hg); rw [LT.val_eq] at this; refine this.mono ?_
  rintro e w' ⟨v, rfl, hr, _, T⟩
  rw [show varsB u = u.vars from by unfold varsB; rw [if_pos hg']] at hr; obtain ⟨va, vc, rfl⟩ := hr.shape; exact ⟨va, vc, rfl, hr, T⟩
def BLoop (N bb m : Nat) (l : TL) (w1 wr : World) : Prop :=
  ∃ O, BO (fun k => k < N) bb O m l wr ∧ (∀ k, O k → N ≤ k) ∧ Turned (fun _ => False) w1 wr
theorem BLoop.step {N bb m m' : Nat} {l l' : TL} {w1 wr w' : World} {O : Nat → Prop} (hN : N = w1.heap.size) (h : BO (fun k => k < N) bb O m l wr) (hO : ∀ k, O k → N ≤ k) (T : Turned (fun _ => False) w1 wr) (ha : After (fun k => k < N) bb O m' l' wr w') : BLoop N bb m' l' w1 w' := by
  obtain ⟨O', a1, a2, a3⟩ := ha; refine ⟨O', a1, fun k hk => ?_, T.step a3 (fun i hi e => by have := hO i e; omega)⟩
  rcases Nat.lt_or_ge k wr.heap.size with h1 | h1
  · exact hO k (a2 k hk h1)
  · have := T.size; omega
end Go.Proofs.Ytoihjobdfjajfaa
namespace Go.Proofs.Ytoihjobdfjajfaa
open Go.RowKit Go.Maps
theorem bothVal {p O : Nat → Prop} {bb m : Nat} {l : TL} {w : World} {x y : LT} {ok : Bool} {c e : Int} {tr : Tm.Trail} (h : BO p bb O m l w) (hx : x.In p w) (sx : slim x) (hy : y.In p w) (sy : slim y) (hR : bothR m (bt l) x.bare y.bare = (ok, c, e, tr)) :
    Calls Try.prog 110 #[.pointer (some ⟨bb, 0, none⟩), .agg #[.int .i64 x.kind, .int .i64 x.n, .string x.name, .slice x.at_.1 x.args.length x.at_.2], .agg #[.int .i64 y.kind, .int .i64 y.n, .string y.name, .slice y.at_.1 y.args.length y.at_.2]] w fun E w' => E = .returned (.tuple #[.bool ok, .int .i64 c, .int .i64 e]) ∧ ∃ l2, bt l2 = tr ∧ After p bb O m l2 w w' := by
  have := bothO110 h hx sx hy sy; rw [LT.val_eq, LT.val_eq, hR] at this; exact this
end Go.Proofs.Ytoihjobdfjajfaa
namespace Go.Proofs.Ytoihjobdfjajfaa
open Go.RowKit Go.Maps
open Tm (Stp)
def stC (s : Stp) : List Value := [.string s.op, .int .i64 s.a, .int .i64 s.b, .int .i64 s.c, .int .i64 s.n, .string s.name]
theorem stC_length (s : Stp) : (stC s).length = 6 := rfl
theorem stC_one (s : Stp) : ∀ u ∈ stC s, u.oneCell' = true := by
  intro u hu; simp only [stC, List.mem_cons, List.not_mem_nil, or_false] at hu
  rcases hu with rfl | rfl | rfl | rfl | rfl | rfl <;> rfl
theorem stCs_at {L : List Stp} {i : Nat} {s : Stp} (h : L[i]? = some s) (j : Nat) (hj : j < 6) : (L.flatMap stC)[i * 6 + j]? = (stC s)[j]? := by
  induction L generalizing i with
  | nil => simp at h
  | cons y l ih =>
    rw [List.flatMap_cons]
    cases i with
    | zero =>
      simp at h; subst h; rw [List.getElem?_append_left (by rw [stC_length]; omega), Nat.zero_mul, Nat.zero_add]
    | succ i =>
      simp at h; rw [List.getElem?_append_right (by rw [stC_length]; omega), stC_length]
      have : (i + 1) * 6 + j - 6 = i * 6 + j := by omega
      rw [this]; exact ih h
theorem step_cells {w : World} {L : List Stp} {g cap i : Nat} {s : Stp} (h : Row w 139 6 (.slice (some ⟨g, 0, none⟩) L.length cap) L.length (L.flatMap stC)) (hi : L[i]? = some s) :
    w.cell? ⟨g, i * 6, none⟩ = some (.string s.op) ∧ w.cell? ⟨g, i * 6 + 1, none⟩ = some (.int .i64 s.a) ∧ w.cell? ⟨g, i * 6 + 2, none⟩ = some (.int .i64 s.b) ∧ w.cell? ⟨g, i * 6 + 3, none⟩ = some (.int .i64 s.c) ∧ w.cell? ⟨g, i * 6 + 4, none⟩ = some (.int .i64 s.n) ∧ w.cell? ⟨g, i * 6 + 5, none⟩ = some (.string s.name) := by
  have hc := h.cells rfl; refine ⟨hc _ _ (by have := stCs_at hi 0 (by omega); rw [Nat.add_zero] at this; rw [this]; rfl), hc _ _ (by rw [stCs_at hi 1 (by omega)]; rfl), hc _ _ (by rw [stCs_at hi 2 (by omega)]; rfl), hc _ _ (by rw [stCs_at hi 3 (by omega)]; rfl), hc _ _ (by rw [stCs_at hi 4 (by omega)]; rfl), hc _ _ (by rw [stCs_at hi 5 (by omega)]; rfl)⟩
def stOk (s : Stp) : Prop := s.op.size ≤ maxLen ∧ I64 s.a ∧ I64 s.b ∧ I64 s.c ∧ I64 s.n ∧ s.name.size ≤ maxLen
theorem cells6 {w : World} {bb : Nat} {a b c d e f : Value} {T : TypeId} (h : w.heap[bb]? = some (.cells #[a, b, c, d, e, f] T (0, 0))) :
    w.cell? ⟨bb, 0, none⟩ = some a ∧ w.cell? ⟨bb, 1, none⟩ = some b ∧ w.cell? ⟨bb, 2, none⟩ = some c ∧ w.cell? ⟨bb, 3, none⟩ = some d ∧ w.cell? ⟨bb, 4, none⟩ = some e ∧ w.cell? ⟨bb, 5, none⟩ = some f :=
  ⟨by rw [cell_of_row w bb 0 _ T (0, 0) h]; rfl, by rw [cell_of_row w bb 1 _ T (0, 0) h]; rfl, by rw [cell_of_row w bb 2 _ T (0, 0) h]; rfl, by rw [cell_of_row w bb 3 _ T (0, 0) h]; rfl, by rw [cell_of_row w bb 4 _ T (0, 0) h]; rfl, by rw [cell_of_row w bb 5 _ T (0, 0) h]; rfl⟩
theorem free6 {w : World} {bb : Nat} {cs : Array Value} {T : TypeId} (h : w.heap[bb]? = some (.cells cs T (0, 0))) (j : Nat) : w.frozen? ⟨bb, j, none⟩ = false := frozen_of_row w bb j _ T h
end Go.Proofs.Ytoihjobdfjajfaa
namespace Go.Proofs.Ytoihjobdfjajfaa
open Go.RowKit Go.Maps
theorem run_copy_n {P : Program} (w : World) (dT sT ty elem : TypeId) (size g o dLen dCap : Nat) (a : Addr) (sLen sCap : Nat) (cur : Array Value) (t : TypeId) (cs : List Value)
    (hu : P.underlying dT = some (.slice elem)) (hs : (P.info? elem).map (·.size) = some size)
    (hg : w.heap[g]? = some (.cells cur t (0, 0))) (hn : cs.length = Nat.min sLen dLen * size)
    (hsrc : ∀ j v, cs[j]? = some v → w.cell? (a.add j) = some v) (hfit : o + cs.length ≤ cur.size) (h1 : ∀ v ∈ cs, v.oneCell' = true) :
    (Builtin.copy_ #[dT, sT] ty #[.slice (some ⟨g, o, none⟩) dLen dCap, .slice (some a) sLen sCap]).run P w =
      .ok (goInt (Nat.min sLen dLen)) (w.setRow g (cur.toList.take o ++ cs ++ cur.toList.drop (o + cs.length)).toArray) := by
  have hl := run_loadCells_list (P := P) w a cs hsrc; have hst := run_storeCells_at P g o t cs 0 cur w hg (by simpa using hfit) h1
  cases hq : P.info? elem with
  | none => simp [hq] at hs
  | some i =>
    have hi : i.size = size := by simpa [hq] using hs
    simp [Builtin.copy_, run_underlying hu, Builtin.lenOf, Builtin.firstCells, sizeOf, typeInfo, hq, hi, ← hn, hl, hst]
def MK (N bb mb gr gs R S : Nat) (bx : List (Nat × Obj)) (ts : List LT) (w1 : World) (st : Tm.MS) (W : World) : Prop :=
  ∃ (q : Nat → Prop) (l : TL) (O : Nat → Prop) (rs ss : List LT), (∀ k, k < N → q k) ∧ bt l = st.l ∧ BO q bb O st.m l W ∧ (∀ k, O k → N ≤ k) ∧ Turned (fun _ => False) w1 W ∧
    W.heap[mb]? = some (.cells #[.pointer (some ⟨bb, 0, none⟩), .slice (some ⟨gr, 0, none⟩) R R, .slice (some ⟨gs, 0, none⟩) S S] 197 (0, 0)) ∧
    (Row W 27 4 (.slice (some ⟨gr, 0, none⟩) R R) R (rs.flatMap LT.cells) ∧ rs.map Tm.bare = st.rs ∧ ∀ x ∈ rs, x.In q W) ∧ (Row W 27 4 (.slice (some ⟨gs, 0, none⟩) S S) S (ss.flatMap LT.cells) ∧ ss.map Tm.bare = st.ss ∧ ∀ x ∈ ss, x.In q W) ∧
    (∀ g, g = mb ∨ g = gr ∨ g = gs → N ≤ g ∧ ¬ O g ∧ ¬ q g) ∧ (mb ≠ gr ∧ mb ≠ gs ∧ gr ≠ gs) ∧ (∀ b ∈ bx, W.heap[b.1]? = some b.2 ∧ ¬ O b.1 ∧ b.1 ≠ mb ∧ b.1 ≠ gr ∧ b.1 ≠ gs ∧ ¬ q b.1) ∧ ∀ x ∈ ts, x.In q W
section
variable {N bb mb gr gs R S : Nat} {bx : List (Nat × Obj)} {ts : List LT} {w1 W W' W0 : World} {st st' : Tm.MS} {x t : LT}
theorem MK.turned0 (h : MK N bb mb gr gs R S bx ts w1 st W) (T : Turned (fun _ => False) W W') : MK N bb mb gr gs R S bx ts w1 st W' := by
  obtain ⟨q, l, O, rs, ss, h1, h2, h3, h4, h5, h6, ⟨r1, r2, r3⟩, ⟨s1, s2, s3⟩, h9, h10, h11, h12⟩ := h; exact ⟨q, l, O, rs, ss, h1, h2, h3.turned0 T, h4, h5.trans T, (T.block _ (Array.getElem?_eq_some_iff.1 h6).1 (fun f => f)).trans h6, ⟨r1.turned0 T, r2, fun x hx => (r3 x hx).turned0 T⟩, ⟨s1.turned0 T, s2, fun x hx => (s3 x hx).turned0 T⟩, h9, h10, fun b hb => ⟨(T.block _ (Array.getElem?_eq_some_iff.1 (h11 b hb).1).1 (fun f => f)).trans (h11 b hb).1, (h11 b hb).2⟩, fun x hx => (h12 x hx).turned0 T⟩
theorem MK.old (h : MK N bb mb gr gs R S bx ts w1 st W) : Turned (fun _ => False) w1 W := by
  obtain ⟨q, l, O, rs, ss, h1, h2, h3, h4, h5, _⟩ := h; exact h5
theorem MK.mbox (h : MK N bb mb gr gs R S bx ts w1 st W) : W.heap[mb]? = some (.cells #[.pointer (some ⟨bb, 0, none⟩), .slice (some ⟨gr, 0, none⟩) R R, .slice (some ⟨gs, 0, none⟩) S S] 197 (0, 0)) := by
  obtain ⟨q, l, O, rs, ss, h1, h2, h3, h4, h5, h6, _⟩ := h; exact h6
theorem MK.boxes (h : MK N bb mb gr gs R S bx ts w1 st W) : ∀ b ∈ bx, W.heap[b.1]? = some b.2 := by
  obtain ⟨q, l, O, rs, ss, h1, h2, h3, h4, h5, h6, h7, h8, h9, h10, h11, h12⟩ := h
  exact fun b hb => (h11 b hb).1
theorem MK.terms (h : MK N bb mb gr gs R S bx ts w1 st W) : ∀ x ∈ ts, x.In (fun _ => True) W := by
  obtain ⟨q, l, O, rs, ss, h1, h2, h3, h4, h5, h6, h7, h8, h9, h10, h11, h12⟩ := h
  exact fun x hx => (h12 x hx).mono (fun _ _ _ => trivial)
theorem MK.drop (h : MK N bb mb gr gs R S bx ts w1 st W) : MK N bb mb gr gs R S [] [] w1 st W := by
  obtain ⟨q, l, O, rs, ss, h1, h2, h3, h4, h5, h6, h7, h8, h9, h10, h11, h12⟩ := h; exact ⟨q, l, O, rs, ss, h1, h2, h3, h4, h5, h6, h7, h8, h9, h10, (fun b hb => by cases hb), fun b hb => by cases hb⟩
theorem MK.ok (h : MK N bb mb gr gs R S bx ts w1 st W) : Tm.okT st.m st.l := by
  obtain ⟨q, l, O, rs, ss, h1, h2, h3, _⟩ := h; rw [← h2]; exact h3.ok
theorem MK.most (h : MK N bb mb gr gs R S bx ts w1 st W) : st.m ≤ 65536 := by
  obtain ⟨q, l, O, rs, ss, h1, h2, h3, _⟩ := h; exact h3.most
theorem MK.lens (h : MK N bb mb gr gs R S bx ts w1 st W) : st.rs.length = R ∧ st.ss.length = S := by
  obtain ⟨q, l, O, rs, ss, h1, h2, h3, h4, h5, h6, ⟨r1, r2, r3⟩, ⟨s1, s2, s3⟩, _⟩ := h; have e1 := r1.1; have e2 := s1.1; rw [LT.flat_length] at e1 e2; rw [← r2, ← s2, List.length_map, List.length_map]; omega
theorem MK.box (h : MK N bb mb gr gs R S bx ts w1 st W) (o : Obj) : MK N bb mb gr gs R S ((W.heap.size, o) :: bx) ts w1 st (W.alloc o) := by
  have T := (Turned.refl (fun _ => False) W).alloc o; obtain ⟨q, l, O, rs, ss, h1, h2, h3, h4, h5, h6, ⟨r1, r2, r3⟩, ⟨s1, s2, s3⟩, h9, h10, h11, h12⟩ := h; have l1 := (Array.getElem?_eq_some_iff.1 h6).1; have l2 := r1.lt gr rfl; have l3 := s1.lt gs rfl; refine ⟨q, l, O, rs, ss, h1, h2, h3.turned0 T, h4, h5.trans T, (T.block _ l1 (fun f => f)).trans h6, ⟨r1.turned0 T, r2, fun x hx => (r3 x hx).turned0 T⟩, ⟨s1.turned0 T, s2, fun x hx => (s3 x hx).turned0 T⟩, h9, h10, fun b hb => ?_, fun x hx => (h12 x hx).turned0 T⟩
  rcases List.mem_cons.1 hb with rfl | hb
  · exact ⟨heap_alloc_new W o, fun c => Nat.lt_irrefl _ (h3.lt _ c), fun e => by simp only [] at e; omega, fun e => by simp only [] at e; omega, fun e => by simp only [] at e; omega, fun c => Nat.lt_irrefl _ (h3.plt _ c)⟩
  · exact ⟨(T.block _ (Array.getElem?_eq_some_iff.1 (h11 b hb).1).1 (fun f => f)).trans (h11 b hb).1, (h11 b hb).2⟩
theorem MK.keep (h : MK N bb mb gr gs R S bx ts w1 st W0) (T : Turned (fun _ => False) W0 W) (hx : x.In (fun k => k < N ∨ W0.heap.size ≤ k) W) : MK N bb mb gr gs R S bx (x :: ts) w1 st W := by
  obtain ⟨q, l, O, rs, ss, h1, h2, h3, h4, h5, h6, ⟨r1, r2, r3⟩, ⟨s1, s2, s3⟩, h9, h10, h11, h12⟩ := h; have l1 := (Array.getElem?_eq_some_iff.1 h6).1; have l2 := r1.lt gr rfl; have l3 := s1.lt gs rfl
  have up : ∀ {y : LT}, y.In q W0 → y.In (fun k => q k ∨ (W0.heap.size ≤ k ∧ k < W.heap.size)) W := fun hy => (hy.turned0 T).mono (fun _ _ h => .inl h)
  refine ⟨fun k => q k ∨ (W0.heap.size ≤ k ∧ k < W.heap.size), l, O, rs, ss, fun k hk => .inl (h1 k hk), h2, (h3.turned0 T).wide (fun k hk => .inl hk) (fun k hk => ?_), h4, h5.trans T, (T.block _ l1 (fun f => f)).trans h6, ⟨r1.turned0 T, r2, fun x hx => up (r3 x hx)⟩, ⟨s1.turned0 T, s2, fun x hx => up (s3 x hx)⟩, fun g hg => ⟨(h9 g hg).1, (h9 g hg).2.1, fun c => ?_⟩, h10, fun b hb => ⟨(T.block _ (Array.getElem?_eq_some_iff.1 (h11 b hb).1).1 (fun f => f)).trans (h11 b hb).1, (h11 b hb).2.1, (h11 b hb).2.2.1, (h11 b hb).2.2.2.1, (h11 b hb).2.2.2.2.1, fun c => c.elim (h11 b hb).2.2.2.2.2 (fun c => by have := (Array.getElem?_eq_some_iff.1 (h11 b hb).1).1; omega)⟩, fun y hy => ?_⟩
  · rcases hk with hk | hk
    · exact ⟨Nat.lt_of_lt_of_le (h3.plt k hk) T.size, h3.sep k hk⟩
    · exact ⟨hk.2, fun c => by have := h3.lt k c; omega⟩
  · rcases c with c | c
    · exact (h9 g hg).2.2 c
    · rcases hg with rfl | rfl | rfl <;> omega
  · rcases List.mem_cons.1 hy with rfl | hy
    · exact hx.mono (fun k hk h => h.elim (fun h => .inl (h1 k h)) (fun h => .inr ⟨h, hk⟩))
    · exact up (h12 y hy)
theorem MK.call (hN : N = w1.heap.size) (h : MK N bb mb gr gs R S bx ts w1 st W) : ∃ (q O : Nat → Prop) (l : TL), BO q bb O st.m l W ∧ bt l = st.l ∧ (∀ k, k < N → q k) ∧ (∀ x ∈ ts, x.In q W) ∧ ∀ m' l' w', After q bb O m' l' W w' → MK N bb mb gr gs R S bx ts w1 ⟨m', bt l', st.rs, st.ss⟩ w' := by
  obtain ⟨q, l, O, rs, ss, h1, h2, h3, h4, h5, h6, ⟨r1, r2, r3⟩, ⟨s1, s2, s3⟩, h9, h10, h11, h12⟩ := h; refine ⟨q, O, l, h3, h2, h1, h12, fun m' l' w' ha => ?_⟩; obtain ⟨O', a1, a2, a3⟩ := ha; have l1 := (Array.getElem?_eq_some_iff.1 h6).1; have l2 := r1.lt gr rfl; have l3 := s1.lt gs rfl
  have up : ∀ {y : LT}, y.In q W → y.In q w' := fun hy => LT.In.turned a3 (fun k _ hk e => h3.sep k hk e) (fun _ _ q => q) _ hy
  refine ⟨q, l', O', rs, ss, h1, rfl, a1, fun k hk => ?_, h5.step a3 (fun i hi e => by have := h4 i e; omega), (a3.block mb l1 (h9 mb (.inl rfl)).2.1).trans h6, ⟨r1.turned a3 (fun k hk e => ?_), r2, fun x hx => up (r3 x hx)⟩, ⟨s1.turned a3 (fun k hk e => ?_), s2, fun x hx => up (s3 x hx)⟩, fun g hg => ⟨(h9 g hg).1, fun c => (h9 g hg).2.1 (a2 g c (by rcases hg with rfl | rfl | rfl <;> assumption)), (h9 g hg).2.2⟩, h10, fun b hb => ?_, fun x hx => up (h12 x hx)⟩
  · rcases Nat.lt_or_ge k W.heap.size with hh | hh
    · exact h4 k (a2 k hk hh)
    · have := h5.size; omega
  · simp [Value.ownBlock] at hk
    exact (h9 gr (.inr (.inl rfl))).2.1 (hk ▸ e)
  · simp [Value.ownBlock] at hk
    exact (h9 gs (.inr (.inr rfl))).2.1 (hk ▸ e)
  · obtain ⟨c1, c2, c3⟩ := h11 b hb
    have hlt := (Array.getElem?_eq_some_iff.1 c1).1; exact ⟨(a3.block _ hlt c2).trans c1, fun e => c2 (a2 _ e hlt), c3⟩
theorem MK.reg (h : MK N bb mb gr gs R S bx ts w1 st W) {i : Nat} {y : Tm Unit} (hy : st.rs[i]? = some y) : ∃ r : LT, r.bare = y ∧ (W.cell? ⟨gr, i * 4, none⟩ = some (.int .i64 r.kind) ∧ W.cell? ⟨gr, i * 4 + 1, none⟩ = some (.int .i64 r.n) ∧ W.cell? ⟨gr, i * 4 + 2, none⟩ = some (.string r.name) ∧ W.cell? ⟨gr, i * 4 + 3, none⟩ = some (.slice r.at_.1 r.args.length r.at_.2)) ∧ MK N bb mb gr gs R S bx (r :: ts) w1 st W := by
  obtain ⟨q, l, O, rs, ss, h1, h2, h3, h4, h5, h6, ⟨r1, r2, r3⟩, h8, h9, h10, h11, h12⟩ := h; rw [← r2, List.getElem?_map] at hy; obtain ⟨r, hr, rfl⟩ := Option.map_eq_some_iff.1 hy; obtain ⟨g, hg, c0, c1, c2, c3⟩ := row_at r1 hr
  injection hg with hg
  injection hg with hg
  subst hg; exact ⟨r, rfl, ⟨c0, c1, c2, c3⟩, q, l, O, rs, ss, h1, h2, h3, h4, h5, h6, ⟨r1, r2, r3⟩, h8, h9, h10, h11, fun x hx => (List.mem_cons.1 hx).elim (fun e => e ▸ r3 r (List.mem_of_getElem? hr)) (h12 x)⟩
theorem MK.slot (h : MK N bb mb gr gs R S bx ts w1 st W) {i : Nat} {y : Tm Unit} (hy : st.ss[i]? = some y) : ∃ r : LT, r.bare = y ∧ (W.cell? ⟨gs, i * 4, none⟩ = some (.int .i64 r.kind) ∧ W.cell? ⟨gs, i * 4 + 1, none⟩ = some (.int .i64 r.n) ∧ W.cell? ⟨gs, i * 4 + 2, none⟩ = some (.string r.name) ∧ W.cell? ⟨gs, i * 4 + 3, none⟩ = some (.slice r.at_.1 r.args.length r.at_.2)) ∧ MK N bb mb gr gs R S bx (r :: ts) w1 st W := by
  obtain ⟨q, l, O, rs, ss, h1, h2, h3, h4, h5, h6, h7, ⟨s1, s2, s3⟩, h9, h10, h11, h12⟩ := h; rw [← s2, List.getElem?_map] at hy; obtain ⟨r, hr, rfl⟩ := Option.map_eq_some_iff.1 hy; obtain ⟨g, hg, c0, c1, c2, c3⟩ := row_at s1 hr
  injection hg with hg
  injection hg with hg
  subst hg; exact ⟨r, rfl, ⟨c0, c1, c2, c3⟩, q, l, O, rs, ss, h1, h2, h3, h4, h5, h6, h7, ⟨s1, s2, s3⟩, h9, h10, h11, fun x hx => (List.mem_cons.1 hx).elim (fun e => e ▸ s3 r (List.mem_of_getElem? hr)) (h12 x)⟩
theorem MK.setSlot (hN : N = w1.heap.size) (h : MK N bb mb gr gs R S bx (x :: ts) w1 st W) {i : Nat} (hi : i < S) :
    MK N bb mb gr gs R S bx (x :: ts) w1 ⟨st.m, st.l, st.rs, st.ss.set i x.bare⟩ ((((W.setCell ⟨gs, i * 4, none⟩ (.int .i64 x.kind)).setCell ⟨gs, i * 4 + 1, none⟩ (.int .i64 x.n)).setCell ⟨gs, i * 4 + 2, none⟩ (.string x.name)).setCell ⟨gs, i * 4 + 3, none⟩ (.slice x.at_.1 x.args.length x.at_.2)) := by
  obtain ⟨q, l, O, rs, ss, h1, h2, h3, h4, h5, h6, ⟨r1, r2, r3⟩, ⟨s1, s2, s3⟩, h9, h10, h11, h12⟩ := h
  have Tq : Turned (fun k => k = gs) W ((((W.setCell ⟨gs, i * 4, none⟩ (.int .i64 x.kind)).setCell ⟨gs, i * 4 + 1, none⟩ (.int .i64 x.n)).setCell ⟨gs, i * 4 + 2, none⟩ (.string x.name)).setCell ⟨gs, i * 4 + 3, none⟩ (.slice x.at_.1 x.args.length x.at_.2)) :=
    ((((Turned.refl (fun k => k = gs) W).setCell (p := ⟨gs, i * 4, none⟩) (.inr rfl) _).setCell (p := ⟨gs, i * 4 + 1, none⟩) (.inr rfl) _).setCell (p := ⟨gs, i * 4 + 2, none⟩) (.inr rfl) _).setCell (p := ⟨gs, i * 4 + 3, none⟩) (.inr rfl) _
  have hgs := h9 gs (.inr (.inr rfl))
  have up : ∀ {y : LT}, y.In q W → y.In q _ := fun {y} hy => LT.In.turned Tq (fun k _ hk e => hgs.2.2 (e ▸ hk)) (fun _ _ q => q) y hy
  have e2 := s1.1; rw [LT.flat_length] at e2; have t1 := s1.setAt (off := i * 4) (by omega) (.int .i64 x.kind); have t2 := t1.setAt (off := i * 4 + 1) (by omega) (.int .i64 x.n); have t3 := t2.setAt (off := i * 4 + 2) (by omega) (.string x.name); have t4 := t3.setAt (off := i * 4 + 3) (by omega) (.slice x.at_.1 x.args.length x.at_.2); rw [flat_set (by omega)] at t4; refine ⟨q, l, O, rs, ss.set i x, h1, h2, h3.turned Tq (fun k hk e => ⟨fun c => hgs.2.1 (e ▸ c), fun c => hgs.2.2 (e ▸ c)⟩), h4, h5.step Tq (fun k hk e => by have := hgs.1; omega), (Tq.block mb (Array.getElem?_eq_some_iff.1 h6).1 h10.2.1).trans h6, ⟨r1.turned Tq (fun k hk e => by simp [Value.ownBlock] at hk; exact h10.2.2 (hk.trans e)), r2, fun y hy => up (r3 y hy)⟩, ⟨t4, by rw [List.map_set, s2], fun y hy => ?_⟩, h9, h10, fun b hb => ⟨(Tq.block _ (Array.getElem?_eq_some_iff.1 (h11 b hb).1).1 (h11 b hb).2.2.2.2.1).trans (h11 b hb).1, (h11 b hb).2⟩, fun y hy => up (h12 y hy)⟩
  rcases List.mem_or_eq_of_mem_set hy with hy | rfl
  · exact up (s3 y hy)
  · exact up (h12 y (List.mem_cons_self ..))
end
end Go.Proofs.Ytoihjobdfjajfaa
namespace Go.Proofs.Ytoihjobdfjajfaa
open Go.RowKit Go.Maps
def ownD (wb : Nat) (tv iv rv : Value) (k : Nat) : Prop := k = wb ∨ tv.ownBlock = some k ∨ iv.ownBlock = some k ∨ rv.ownBlock = some k
structure DB (p : Nat → Prop) (wb : Nat) (tv iv rv : Value) (us : List LT) (is : List Bool) (tr : List Int) (w : World) : Prop where
  b : w.heap[wb]? = some (.cells #[tv, iv, rv] 113 (0, 0))
  row : Row w 41 4 tv us.length (us.flatMap LT.cells)
  bools : Row w 4 1 iv is.length (is.map Value.bool)
  trail : Row w 2 1 rv tr.length (tr.map (Value.int .i64))
  same : is.length = us.length
  ins : LT.Ins p w us
  most : us.length ≤ 65536
  ne : tv.ownBlock ≠ some wb ∧ iv.ownBlock ≠ some wb ∧ rv.ownBlock ≠ some wb ∧ (∀ k, tv.ownBlock = some k → iv.ownBlock ≠ some k ∧ rv.ownBlock ≠ some k) ∧ ∀ k, iv.ownBlock = some k → rv.ownBlock ≠ some k
  sep : ∀ k, p k → k < w.heap.size ∧ ¬ ownD wb tv iv rv k
section
variable {p : Nat → Prop} {wb : Nat} {tv iv rv : Value} {us : List LT} {is : List Bool} {tr : List Int} {w w' : World}
theorem DB.own_lt (h : DB p wb tv iv rv us is tr w) : ∀ k, ownD wb tv iv rv k → k < w.heap.size := by
  rintro k (rfl | hk | hk | hk)
  · exact (Array.getElem?_eq_some_iff.1 h.b).1
  · exact h.row.lt k hk
  · exact h.bools.lt k hk
  · exact h.trail.lt k hk
theorem DB.turned {S : Nat → Prop} (h : DB p wb tv iv rv us is tr w) (ht : Turned S w w') (hS : ∀ k, k < w.heap.size → S k → ¬ ownD wb tv iv rv k ∧ ¬ p k) : DB p wb tv iv rv us is tr w' := by
  have hb := (Array.getElem?_eq_some_iff.1 h.b).1
  exact ⟨(ht.block _ hb (fun f => (hS _ hb f).1 (.inl rfl))).trans h.b,
    h.row.turned ht (fun k hk f => (hS _ (h.row.lt k hk) f).1 (.inr (.inl hk))),
    h.bools.turned ht (fun k hk f => (hS _ (h.bools.lt k hk) f).1 (.inr (.inr (.inl hk)))),
    h.trail.turned ht (fun k hk f => (hS _ (h.trail.lt k hk) f).1 (.inr (.inr (.inr hk)))), h.same,
    LT.Ins.turned ht (fun k hk hq f => (hS k hk f).2 hq) (fun _ _ q => q) _ h.ins, h.most, h.ne, fun k hk => ⟨Nat.lt_of_lt_of_le (h.sep k hk).1 ht.size, (h.sep k hk).2⟩⟩
theorem DB.turned0 (h : DB p wb tv iv rv us is tr w) (ht : Turned (fun _ => False) w w') : DB p wb tv iv rv us is tr w' :=
  h.turned ht (fun _ _ f => f.elim)
theorem DB.none {w : World} (hp : ∀ k, p k → k < w.heap.size) : DB p w.heap.size (.slice none 0 0) (.slice none 0 0) (.slice none 0 0) [] [] [] (w.alloc (.cells #[.slice none 0 0, .slice none 0 0, .slice none 0 0] 113)) := by
  refine ⟨heap_alloc_new w _, Row.nil _ _ _, Row.nil _ _ _, Row.nil _ _ _, rfl, trivial, Nat.zero_le _, ⟨by simp [Value.ownBlock], by simp [Value.ownBlock], by simp [Value.ownBlock], fun k hk => by simp [Value.ownBlock] at hk, fun k hk => by simp [Value.ownBlock] at hk⟩, fun k hk => ?_⟩; have := hp k hk; refine ⟨by simp; omega, ?_⟩
  rintro (e | e | e | e)
  · omega
  · simp [Value.ownBlock] at e
  · simp [Value.ownBlock] at e
  · simp [Value.ownBlock] at e
end
end Go.Proofs.Ytoihjobdfjajfaa
namespace Go.Proofs.Ytoihjobdfjajfaa
open Go.RowKit Go.Maps
section
variable {p : Nat → Prop} {wb : Nat} {tv iv rv tv' iv' : Value} {us : List LT} {is : List Bool} {tr : List Int} {w w' : World}
theorem DB.fresh (h : DB p wb tv iv rv us is tr w) (hm : us.length < 65536) (ht : Turned (fun k => k = wb ∨ tv.ownBlock = some k ∨ iv.ownBlock = some k) w w') (hb : w'.heap[wb]? = some (.cells #[tv', iv', rv] 113 (0, 0)))
    (hr : Row w' 41 4 tv' (us.length + 1) (us.flatMap LT.cells ++ (leaf 0 0 ByteArray.empty : LT).cells)) (hi : Row w' 4 1 iv' (is.length + 1) (is.map Value.bool ++ [.bool false]))
    (ho : tv'.ownBlock = tv.ownBlock ∨ ∀ k, tv'.ownBlock = some k → w.heap.size ≤ k) (ho2 : iv'.ownBlock = iv.ownBlock ∨ ∀ k, iv'.ownBlock = some k → w.heap.size ≤ k) (hd : ∀ k, tv'.ownBlock = some k → iv'.ownBlock ≠ some k) :
    DB p wb tv' iv' rv (us ++ [leaf 0 0 ByteArray.empty]) (is ++ [false]) tr w' := by
  obtain ⟨n1, n2, n3, n4, n5⟩ := h.ne; have hbl := (Array.getElem?_eq_some_iff.1 h.b).1
  have old : ∀ {a a' : Value}, (a'.ownBlock = a.ownBlock ∨ ∀ k, a'.ownBlock = some k → w.heap.size ≤ k) → ∀ q, q < w.heap.size → a'.ownBlock = some q → a.ownBlock = some q := fun ho q hq e => by
    rcases ho with ho | ho
    · exact ho ▸ e
    · have := ho q e; omega
  have hown : ∀ k, k < w.heap.size → ownD wb tv' iv' rv k → ownD wb tv iv rv k := by
    rintro k hk (rfl | hq | hq | hq)
    · exact .inl rfl
    · exact .inr (.inl (old ho k hk hq))
    · exact .inr (.inr (.inl (old ho2 k hk hq)))
    · exact .inr (.inr (.inr hq))
  refine ⟨hb, ?_, ?_, h.trail.turned ht (fun k hk e => ?_), by simp [h.same], (LT.ins_append _ _).2 ⟨LT.Ins.turned ht (fun k hk hq e => ?_) (fun _ _ q => q) _ h.ins, ?_⟩, by simp; omega, ⟨fun e => n1 (old ho _ hbl e), fun e => n2 (old ho2 _ hbl e), n3, fun k hk => ⟨hd k hk, fun e => ?_⟩, fun k hk e => ?_⟩, fun k hk => ⟨Nat.lt_of_lt_of_le (h.sep k hk).1 ht.size, fun c => (h.sep k hk).2 (hown k (h.sep k hk).1 c)⟩⟩
  · rw [List.length_append, List.flatMap_append]
    simpa using hr
  · rw [List.length_append, List.map_append]
    simpa using hi
  · rcases e with e | e | e
    · exact n3 (e ▸ hk)
    · exact (n4 k e).2 hk
    · exact n5 k e hk
  · refine (h.sep k hq).2 ?_
    rcases e with e | e | e
    · exact .inl e
    · exact .inr (.inl e)
    · exact .inr (.inr (.inl e))
  · exact ⟨var_in (i64_lit 0 (by omega)), trivial⟩
  · have hl := h.trail.lt k e
    exact (n4 k (old ho k hl hk)).2 e
  · have hl := h.trail.lt k e
    exact n5 k (old ho2 k hl hk) e
end
end Go.Proofs.Ytoihjobdfjajfaa
namespace Go.Proofs.Ytoihjobdfjajfaa
open Go.RowKit Go.Maps
structure Chain (e : TypeId) (size : Nat) (tv : Value) (n : Nat) (xs news : List Value) (i j : Nat) (w0 : World) (hs : Hist) (W : World) : Prop where
  old : (∀ v, (j, v) ∉ hs) → Row W e size tv n xs
  one : ∀ v, (i, v) ∈ hs → (∀ x, (j, x) ∉ hs) → ∃ S, v = .slice (some ⟨S, 0, none⟩) 1 1 ∧ w0.heap.size ≤ S ∧ W.heap[S]? = some (.cells news.toArray e (0, 0))
  new : ∀ v, (j, v) ∈ hs → ∃ g cap, v = .slice (some ⟨g, 0, none⟩) (n + 1) cap ∧ Row W e size v (n + 1) (xs ++ news) ∧ (some g = tv.ownBlock ∨ w0.heap.size ≤ g)
section
variable {e : TypeId} {size : Nat} {tv : Value} {n : Nat} {xs news : List Value} {i j : Nat} {w0 W W' : World} {hs : Hist}
theorem Chain.start (h : Row w0 e size tv n xs) (T : Turned (fun _ => False) w0 W) : Chain e size tv n xs news i j w0 [] W :=
  ⟨fun _ => h.turned0 T, fun v h => (List.not_mem_nil h).elim, fun v h => (List.not_mem_nil h).elim⟩
theorem Chain.turned {S : Nat → Prop} (h : Chain e size tv n xs news i j w0 hs W) (T : Turned S W W') (hS : ∀ k, S k → k < w0.heap.size ∧ tv.ownBlock ≠ some k) : Chain e size tv n xs news i j w0 hs W' := by
  refine ⟨fun hn => (h.old hn).turned T (fun k hk c => (hS k c).2 hk), fun v hv hn => ?_, fun v hv => ?_⟩
  · obtain ⟨B, h1, h2, h3⟩ := h.one v hv hn
    exact ⟨B, h1, h2, (T.block B (Array.getElem?_eq_some_iff.1 h3).1 (fun c => by have := (hS B c).1; omega)).trans h3⟩
  · obtain ⟨g, cap, h1, h2, h3⟩ := h.new v hv
    refine ⟨g, cap, h1, h2.turned T (fun k hk c => ?_), h3⟩; rw [h1] at hk; simp only [Value.ownBlock, Option.some.injEq] at hk; subst hk
    rcases h3 with h3 | h3
    · exact (hS _ c).2 h3.symm
    · have := (hS _ c).1; omega
theorem Chain.turned0 (h : Chain e size tv n xs news i j w0 hs W) (T : Turned (fun _ => False) W W') : Chain e size tv n xs news i j w0 hs W' := h.turned T (fun _ f => f.elim)
theorem Chain.other {q : Nat} {x : Value} (h : Chain e size tv n xs news i j w0 hs W) (hi : q ≠ i) (hj : q ≠ j) : Chain e size tv n xs news i j w0 (hs ++ [(q, x)]) W := by
  have ne : ∀ {a : Nat} {v : Value}, a ≠ q → (a, v) ∈ hs ++ [(q, x)] → (a, v) ∈ hs := fun ha hm => by
    rcases mem_snoc hm with hm | ⟨c, _⟩
    · exact hm
    · exact absurd c ha
  exact ⟨fun hn => h.old (fun v c => hn v (List.mem_append_left _ c)), fun v hv hn => h.one v (ne hi.symm hv) (fun x c => hn x (List.mem_append_left _ c)), fun v hv => h.new v (ne hj.symm hv)⟩
theorem Chain.laid (h : Chain e size tv n xs news i j w0 hs W) (hw : w0.heap.size ≤ W.heap.size) (hij : i ≠ j) (hno : ∀ v, (i, v) ∉ hs) : Chain e size tv n xs news i j w0 (hs ++ [(i, .slice (some ⟨W.heap.size, 0, none⟩) 1 1)]) (W.alloc (.cells news.toArray e)) := by
  have T : Turned (fun _ => False) W (W.alloc (.cells news.toArray e)) := (Turned.refl _ W).alloc _; have hk := h.turned0 T; refine ⟨fun hn => hk.old (fun v c => hn v (List.mem_append_left _ c)), fun v hv hn => ?_, fun v hv => ?_⟩
  · rcases mem_snoc hv with hm | ⟨_, c⟩
    · exact absurd hm (hno v)
    · exact ⟨_, c, hw, heap_alloc_new W _⟩
  · rcases mem_snoc hv with hm | ⟨c, _⟩
    · exact hk.new v hm
    · exact absurd c.symm hij
end
end Go.Proofs.Ytoihjobdfjajfaa
namespace Go.Proofs.Ytoihjobdfjajfaa
open Go.RowKit Go.Maps
abbrev zc : List Value := (leaf 0 0 ByteArray.empty : LT).cells
structure FsR (wb : Nat) (tv iv rv : Value) (us : List LT) (is : List Bool) (w0 : World) (hs : Hist) (W : World) : Prop where
  t : Turned (fun k => k = wb ∨ tv.ownBlock = some k ∨ iv.ownBlock = some k) w0 W
  ct : Chain 41 4 tv us.length (us.flatMap LT.cells) zc 7 8 w0 hs W
  ci : Chain 4 1 iv is.length (is.map Value.bool) [.bool false] 13 14 w0 hs W
  blk : ∃ a b, W.heap[wb]? = some (.cells #[a, b, rv] 113 (0, 0)) ∧ ((∀ q, (17, q) ∉ hs) → a = tv) ∧ (∀ q, (17, q) ∈ hs → (8, a) ∈ hs) ∧ ((∀ q, (20, q) ∉ hs) → b = iv) ∧ ∀ q, (20, q) ∈ hs → (14, b) ∈ hs
section
variable {p : Nat → Prop} {wb : Nat} {tv iv rv : Value} {us : List LT} {is : List Bool} {tr : List Int} {w0 W W' : World} {hs : Hist}
theorem FsR.start (h : DB p wb tv iv rv us is tr w0) (T : Turned (fun _ => False) w0 W) : FsR wb tv iv rv us is w0 [] W := by
  have h' := h.turned0 T; exact ⟨T.mono (fun _ _ f => f.elim), Chain.start h.row T, Chain.start h.bools T, tv, iv, h'.b, fun _ => rfl, fun q hq => (List.not_mem_nil hq).elim, fun _ => rfl, fun q hq => (List.not_mem_nil hq).elim⟩
theorem FsR.turned0 (h : FsR wb tv iv rv us is w0 hs W) (T : Turned (fun _ => False) W W') : FsR wb tv iv rv us is w0 hs W' := by
  obtain ⟨a, b, h1, h2, h3, h4, h5⟩ := h.blk; exact ⟨h.t.trans (T.mono (fun _ _ f => f.elim)), h.ct.turned0 T, h.ci.turned0 T, a, b, (T.block wb (Array.getElem?_eq_some_iff.1 h1).1 (fun f => f)).trans h1, h2, h3, h4, h5⟩
end
end Go.Proofs.Ytoihjobdfjajfaa
namespace Go.Proofs.Ytoihjobdfjajfaa
open Go.RowKit Go.Maps
section
variable {p : Nat → Prop} {wb : Nat} {tv iv rv : Value} {us : List LT} {is : List Bool} {tr : List Int} {w0 W W' : World} {hs : Hist}
theorem FsR.done (hd : DB p wb tv iv rv us is tr w0) (hm : us.length < 65536) (h : FsR wb tv iv rv us is w0 hs W) (hall : ∀ i ∈ [7, 8, 13, 14, 17, 20], ∃ v, (i, v) ∈ hs) : ∃ tv' iv', DB p wb tv' iv' rv (us ++ [leaf 0 0 ByteArray.empty]) (is ++ [false]) tr W ∧ Turned (fun k => k = wb ∨ tv.ownBlock = some k ∨ iv.ownBlock = some k) w0 W ∧ (tv'.ownBlock = tv.ownBlock ∨ ∀ k, tv'.ownBlock = some k → w0.heap.size ≤ k) ∧ (iv'.ownBlock = iv.ownBlock ∨ ∀ k, iv'.ownBlock = some k → w0.heap.size ≤ k) := by
  obtain ⟨a, b, h1, h2, h3, h4, h5⟩ := h.blk; obtain ⟨q, hq⟩ := hall 17 (by simp); obtain ⟨r, hr⟩ := hall 20 (by simp); obtain ⟨g, cap, rfl, r1, g1⟩ := h.ct.new _ (h3 q hq); obtain ⟨g', cap', rfl, r2, g2⟩ := h.ci.new _ (h5 r hr)
  have o1 : (Value.slice (some ⟨g, 0, none⟩) (us.length + 1) cap).ownBlock = tv.ownBlock ∨ ∀ k, (Value.slice (some ⟨g, 0, none⟩) (us.length + 1) cap).ownBlock = some k → w0.heap.size ≤ k := by
    rcases g1 with g1 | g1
    · exact .inl (by simpa [Value.ownBlock] using g1)
    · exact .inr (fun k hk => by simp [Value.ownBlock] at hk; omega)
  have o2 : (Value.slice (some ⟨g', 0, none⟩) (is.length + 1) cap').ownBlock = iv.ownBlock ∨ ∀ k, (Value.slice (some ⟨g', 0, none⟩) (is.length + 1) cap').ownBlock = some k → w0.heap.size ≤ k := by
    rcases g2 with g2 | g2
    · exact .inl (by simpa [Value.ownBlock] using g2)
    · exact .inr (fun k hk => by simp [Value.ownBlock] at hk; omega)
  refine ⟨_, _, hd.fresh hm h.t h1 r1 r2 o1 o2 (fun k k1 k2 => ?_), h.t, o1, o2⟩; simp only [Value.ownBlock, Option.some.injEq] at k1 k2; subst k1; subst k2
  rcases r1.2 with ⟨c, _⟩ | ⟨x, xc, cur, e1, e2, _⟩
  · cases c
  rcases r2.2 with ⟨c, _⟩ | ⟨y, yc, cur', f1, f2, _⟩
  · cases c
  injection e1 with e1; injection e1 with e1; injection e1 with e1
  injection f1 with f1; injection f1 with f1; injection f1 with f1
  subst e1; rw [← f1, e2] at f2
  injection f2 with f2
  injection f2 with _ f2
  cases f2
end
end Go.Proofs.Ytoihjobdfjajfaa
namespace Go.Proofs.Ytoihjobdfjajfaa
open Go.RowKit Go.Maps
theorem rec3b {w : World} {bb : Nat} {x y z : Value} {T : TypeId} (h : w.heap[bb]? = some (.cells #[x, y, z] T (0, 0))) :
    w.cell? ⟨bb, 0, none⟩ = some x ∧ w.cell? ⟨bb, 1, none⟩ = some y ∧ w.cell? ⟨bb, 2, none⟩ = some z ∧ w.frozen? ⟨bb, 0, none⟩ = false ∧ w.frozen? ⟨bb, 1, none⟩ = false ∧ w.frozen? ⟨bb, 2, none⟩ = false :=
  ⟨by rw [cell_of_row w bb 0 _ T (0, 0) h]; rfl, by rw [cell_of_row w bb 1 _ T (0, 0) h]; rfl, by rw [cell_of_row w bb 2 _ T (0, 0) h]; rfl, frozen_of_row w bb 0 _ T h, frozen_of_row w bb 1 _ T h, frozen_of_row w bb 2 _ T h⟩
end Go.Proofs.Ytoihjobdfjajfaa
namespace Go.Proofs.Ytoihjobdfjajfaa
namespace Tm
noncomputable def UR.andThen (r : UR) (b : List (Tm Unit × Tm Unit)) : UR :=
  match r with
  | .ok l left => unify l left b
  | .no q => .no q
  | .over => .over
end Tm
end Go.Proofs.Ytoihjobdfjajfaa
namespace Go.Proofs.Ytoihjobdfjajfaa
open Go.RowKit Go.Maps
structure DT (m : Nat) (l : Tm.Trail) (us : List LT) (is : List Bool) (tr : List Int) : Prop where
  ok : Tm.okT m l
  len : us.length = m
  set : ∀ i : Nat, i < m → is[i]? = some (decide ((i : Int) ∈ Tm.dom l))
  val : ∀ (i : Int) (t : Tm Unit), Tm.look l i = some t → ∃ u : LT, us[i.toNat]? = some u ∧ u.bare = t
  tr : tr = (Tm.dom l).reverse
structure DO (p : Nat → Prop) (wb : Nat) (O : Nat → Prop) (m : Nat) (l : Tm.Trail) (w : World) : Prop where
  db : ∃ tv iv rv us is tr, DB p wb tv iv rv us is tr w ∧ DT m l us is tr ∧ ∀ k, ownD wb tv iv rv k → O k
  lt : ∀ k, O k → k < w.heap.size
  sep : ∀ k, p k → ¬ O k
section
variable {p q O O' S : Nat → Prop} {wb m : Nat} {l : Tm.Trail} {w w' : World} {t : LT}
theorem DO.ok (h : DO p wb O m l w) : Tm.okT m l := by obtain ⟨_, _, _, _, _, _, _, T, _⟩ := h.db; exact T.ok
theorem DO.most (h : DO p wb O m l w) : m ≤ 65536 := by obtain ⟨_, _, _, _, _, _, D, T, _⟩ := h.db; have := D.most; have := T.len; omega
theorem DO.plt (h : DO p wb O m l w) : ∀ k, p k → k < w.heap.size := by obtain ⟨_, _, _, _, _, _, D, _⟩ := h.db; exact fun k hk => (D.sep k hk).1
theorem DO.turned (h : DO p wb O m l w) (T : Turned S w w') (hS : ∀ k, k < w.heap.size → S k → ¬ O k ∧ ¬ p k) : DO p wb O m l w' := by
  obtain ⟨tv, iv, rv, us, is, tr, D, R, hO⟩ := h.db; exact ⟨⟨tv, iv, rv, us, is, tr, D.turned T (fun k hk e => ⟨fun c => (hS k hk e).1 (hO k c), (hS k hk e).2⟩), R, hO⟩, fun k hk => Nat.lt_of_lt_of_le (h.lt k hk) T.size, h.sep⟩
theorem DO.turned0 (h : DO p wb O m l w) (T : Turned (fun _ => False) w w') : DO p wb O m l w' := h.turned T (fun _ _ f => f.elim)
theorem DO.more (h : DO p wb O m l w) (hO : ∀ k, O k → O' k) (hl : ∀ k, O' k → k < w.heap.size) (hs : ∀ k, p k → ¬ O' k) : DO p wb O' m l w := by
  obtain ⟨tv, iv, rv, us, is, tr, D, R, h1⟩ := h.db; exact ⟨⟨tv, iv, rv, us, is, tr, D, R, fun k hk => hO k (h1 k hk)⟩, hl, hs⟩
theorem DB.wide {tv iv rv : Value} {us : List LT} {is : List Bool} {tr : List Int} (h : DB p wb tv iv rv us is tr w) (hp : ∀ k, p k → q k) (hq : ∀ k, q k → k < w.heap.size ∧ ¬ ownD wb tv iv rv k) : DB q wb tv iv rv us is tr w :=
  ⟨h.b, h.row, h.bools, h.trail, h.same, (LT.ins_iff _).2 (fun x hx => ((LT.ins_iff _).1 h.ins x hx).mono (fun k _ hk => hp k hk)), h.most, h.ne, hq⟩
theorem DO.wide (h : DO p wb O m l w) (hp : ∀ k, p k → q k) (hq : ∀ k, q k → k < w.heap.size ∧ ¬ O k) : DO q wb O m l w := by
  obtain ⟨tv, iv, rv, us, is, tr, D, R, h1⟩ := h.db; exact ⟨⟨tv, iv, rv, us, is, tr, D.wide hp (fun k hk => ⟨(hq k hk).1, fun c => (hq k hk).2 (h1 k c)⟩), R, h1⟩, h.lt, fun k hk => (hq k hk).2⟩
def AfterD (p : Nat → Prop) (wb : Nat) (O : Nat → Prop) (m : Nat) (l : Tm.Trail) (w w' : World) : Prop :=
  ∃ O' : Nat → Prop, DO p wb O' m l w' ∧ (∀ k, O' k → k < w.heap.size → O k) ∧ Turned O w w'
theorem AfterD.turned0 {w2 : World} (h : AfterD p wb O m l w w') (T : Turned (fun _ => False) w' w2) : AfterD p wb O m l w w2 := by
  obtain ⟨O', h1, h2, h3⟩ := h; exact ⟨O', h1.turned0 T, h2, h3.trans (T.mono (fun _ _ f => f.elim))⟩
theorem AfterD.trans {m' m2 : Nat} {l' l2 : Tm.Trail} {w2 : World} (h : AfterD p wb O m' l' w w') (h2 : ∀ O', DO p wb O' m' l' w' → AfterD p wb O' m2 l2 w' w2) : AfterD p wb O m2 l2 w w2 := by
  obtain ⟨O', a1, a2, a3⟩ := h; obtain ⟨O2, b1, b2, b3⟩ := h2 O' a1; refine ⟨O2, b1, fun k hk hl => a2 k (b2 k hk (Nat.lt_of_lt_of_le hl a3.size)) hl, a3.step b3 (fun i hi e => a2 i e hi)⟩
end
end Go.Proofs.Ytoihjobdfjajfaa
namespace Go.Proofs.Ytoihjobdfjajfaa
open Go.RowKit Go.Maps
structure BD2 (q : Nat → Prop) (bb wb : Nat) (O D : Nat → Prop) (m mw : Nat) (l : TL) (lw : Tm.Trail) (w : World) : Prop where
  b : BO q bb O m l w
  d : DO q wb D mw lw w
  dis : ∀ k, O k → ¬ D k
section
variable {q q' O D : Nat → Prop} {bb wb m mw m' : Nat} {l l' : TL} {lw lw' : Tm.Trail} {w w' : World} {N : Nat} {w1 wr : World}
theorem BD2.turned0 (h : BD2 q bb wb O D m mw l lw w) (T : Turned (fun _ => False) w w') : BD2 q bb wb O D m mw l lw w' :=
  ⟨h.b.turned0 T, h.d.turned0 T, h.dis⟩
theorem BD2.wide (h : BD2 q bb wb O D m mw l lw w) (hp : ∀ k, q k → q' k) (hq : ∀ k, q' k → k < w.heap.size ∧ ¬ O k ∧ ¬ D k) : BD2 q' bb wb O D m mw l lw w :=
  ⟨h.b.wide hp (fun k hk => ⟨(hq k hk).1, (hq k hk).2.1⟩), h.d.wide hp (fun k hk => ⟨(hq k hk).1, (hq k hk).2.2⟩), h.dis⟩
theorem BD2.grown (h : BD2 q bb wb O D m mw l lw w) (T : Turned (fun _ => False) w w') : BD2 (fun k => q k ∨ (w.heap.size ≤ k ∧ k < w'.heap.size)) bb wb O D m mw l lw w' := by
  refine (h.turned0 T).wide (fun k hk => .inl hk) (fun k hk => ?_)
  rcases hk with hk | hk
  · exact ⟨Nat.lt_of_lt_of_le (h.b.plt k hk) T.size, h.b.sep k hk, h.d.sep k hk⟩
  · exact ⟨hk.2, fun c => by have := h.b.lt k c; omega, fun c => by have := h.d.lt k c; omega⟩
def BDq (q : Nat → Prop) (N bb wb m mw : Nat) (l : TL) (lw : Tm.Trail) (w1 wr : World) : Prop :=
  ∃ O D, BD2 q bb wb O D m mw l lw wr ∧ (∀ k, O k → N ≤ k) ∧ (∀ k, D k → N ≤ k) ∧ Turned (fun _ => False) w1 wr
theorem BDq.turned0 (h : BDq q N bb wb m mw l lw w1 wr) (T : Turned (fun _ => False) wr w') : BDq q N bb wb m mw l lw w1 w' := by
  obtain ⟨O, D, h1, h3, h4, h5⟩ := h; exact ⟨O, D, h1.turned0 T, h3, h4, h5.trans T⟩
theorem BDq.old (h : BDq q N bb wb m mw l lw w1 wr) : Turned (fun _ => False) w1 wr := by
  obtain ⟨O, D, h1, h3, h4, h5⟩ := h; exact h5
theorem BDq.binds (h : BDq (fun k => k < N) N bb wb m mw l lw w1 wr) : BLoop N bb m l w1 wr := by
  obtain ⟨O, D, h1, h3, h4, h5⟩ := h; exact ⟨O, h1.b, h3, h5⟩
end
end Go.Proofs.Ytoihjobdfjajfaa
namespace Go.Proofs.Ytoihjobdfjajfaa
open Go.RowKit Go.Maps
theorem BLoop.grown {N bb m : Nat} {l : TL} {w1 wr w' : World} (h : BLoop N bb m l w1 wr) (hN : N = w1.heap.size) (T : Turned (fun _ => False) wr w') : ∃ O, BO (fun k => k < N ∨ (wr.heap.size ≤ k ∧ k < w'.heap.size)) bb O m l w' ∧ (∀ k, O k → N ≤ k) ∧ Turned (fun _ => False) w1 w' := by
  obtain ⟨O, B, hO, T1⟩ := h; have s1 := T1.size; have s2 := T.size; refine ⟨O, (B.turned0 T).wide (fun k hk => .inl hk) (fun k hk => ?_), hO, T1.trans T⟩
  rcases hk with hk | hk
  · exact ⟨by omega, fun c => by have := hO k c; omega⟩
  · exact ⟨hk.2, fun c => by have := B.lt k c; omega⟩
end Go.Proofs.Ytoihjobdfjajfaa
namespace Go.Proofs.Ytoihjobdfjajfaa
open Lib (hid)
open Go.RowKit Go.Maps
def MRQ (mk : Tm.MS → World → Prop) (st : Tm.MS) : Tm.MR → Ending → World → Prop
  | .go st', e, w' => e = .returned (.tuple #[.bool true, .int .i64 0]) ∧ mk st' w'
  | .stop E m', e, w' => ∃ (b : Bool) (st2 : Tm.MS), e = .returned (.tuple #[.bool b, .int .i64 E]) ∧ (b = true → ¬ E = 0) ∧ st2.m = m' ∧ (∃ a, st2.l = a ++ st.l) ∧ mk st2 w'
def tieB : Tm.MR → Bool
  | .go _ => true
  | .stop E _ => decide (¬ E = 0)
def tieE : Tm.MR → Int
  | .go _ => 0
  | .stop E _ => E
theorem sameB_unbare (a b : LT) : sameB a b = sameB a.bare b.bare := by
  unfold sameB; rw [goodB_bare, goodB_bare]; congr 2; rw [Bool.eq_iff_iff, Tm.same_iff, Tm.same_iff, Tm.bare_unit, Tm.bare_unit]
section
variable {N bb mb gr gs R S : Nat} {bx : List (Nat × Obj)} {ts : List LT} {w1 W W' W0 : World} {st st' : Tm.MS} {x t : LT}
set_option maxRecDepth 100000 in
set_option maxHeartbeats 3200000 in
theorem tie178 (hN : N = w1.heap.size) (h : MK N bb mb gr gs R S bx ts w1 st W) (hx : x.In (fun _ => True) W) (sx : slim x) (gx : Tm.ownB st.m x.bare = true) (ht : ∀ (p : Nat → Prop) (w : World), t.In p w) (sl : slim t) :
    Calls Try.prog 178 #[.pointer (some ⟨mb, 0, none⟩), .agg #[.int .i64 x.kind, .int .i64 x.n, .string x.name, .slice x.at_.1 x.args.length x.at_.2], .agg #[.int .i64 t.kind, .int .i64 t.n, .string t.name, .slice t.at_.1 t.args.length t.at_.2]] W (fun e w' => MRQ (MK N bb mb gr gs R S bx ts w1) st (Tm.tieM st x.bare t.bare) e w' ∧ e = .returned (.tuple #[.bool (tieB (Tm.tieM st x.bare t.bare)), .int .i64 (tieE (Tm.tieM st x.bare t.bare))])) := by
  have h2 := twoBox W (.cells #[.int .i64 x.kind, .int .i64 x.n, .string x.name, .slice x.at_.1 x.args.length x.at_.2] 27) (.cells #[.int .i64 t.kind, .int .i64 t.n, .string t.name, .slice t.at_.1 t.args.length t.at_.2] 27); obtain ⟨w2, hw2⟩ : ∃ z, z = (W.alloc (.cells #[.int .i64 x.kind, .int .i64 x.n, .string x.name, .slice x.at_.1 x.args.length x.at_.2] 27)).alloc (.cells #[.int .i64 t.kind, .int .i64 t.n, .string t.name, .slice t.at_.1 t.args.length t.at_.2] 27) := ⟨_, rfl⟩; rw [← hw2] at h2; have hm2 := h.turned0 h2.1
  have hmb := fun W' (T : Turned (fun _ => False) w2 W') => (hm2.turned0 T).mbox
  have hbx : ∀ W', Turned (fun _ => False) w2 W' → W'.heap[W.heap.size]? = some (.cells #[.int .i64 x.kind, .int .i64 x.n, .string x.name, .slice x.at_.1 x.args.length x.at_.2] 27 (0, 0)) ∧ W'.heap[W.heap.size + 1]? = some (.cells #[.int .i64 t.kind, .int .i64 t.n, .string t.name, .slice t.at_.1 t.args.length t.at_.2] 27 (0, 0)) := fun W' hW => ⟨(hW.block _ (by have := h2.2.1; omega) (fun f => f)).trans h2.2.2.1, (hW.block _ (by have := h2.2.1; omega) (fun f => f)).trans h2.2.2.2⟩
  obtain ⟨MR, hMR⟩ : ∃ z, z = Tm.tieM st x.bare t.bare := ⟨_, rfl⟩; rw [← hMR]; have HMR := hid hMR; clear hMR; have HN := hid hN; have HMB := hid hmb; have HBX := hid hbx; have HW2 := hid hw2; have HM2 := hid hm2; have HH := hid h; have HT2 := hid h2.1; have HX := hid (hx.turned0 h2.1); have HSX := hid sx; have HSL := hid sl; have HTI := hid ht; obtain ⟨k0, k1, k2, k3, _⟩ := cells4 (hbx w2 (Turned.refl _ _)).1; obtain ⟨m0, m1, m2, m3, _⟩ := cells4 (hbx w2 (Turned.refl _ _)).2; obtain ⟨b0, b1, b2, _⟩ := rec3b (hmb w2 (Turned.refl _ _)); clear hm2 hmb hbx h2 hw2 h hx sx sl ht hN
  by_cases hk : x.kind = 0
  · have bx0 : (x.kind == 0) = true := by simp [hk]
    obtain ⟨n0, n1, n2⟩ := Tm.ownB_var gx (by rw [Tm.bare_kind]; exact hk); have hms := HH.out.most; rw [Tm.bare_n] at n0 n1
    have hi64 : I64 x.n := by unfold I64; omega
    have hset : Calls Try.prog 88 #[.pointer (some ⟨bb, 0, none⟩), .int .i64 x.n, .agg #[.int .i64 t.kind, .int .i64 t.n, .string t.name, .slice t.at_.1 t.args.length t.at_.2]] w2.drew fun e w' => e = .returned (.int .i64 (Tm.setE st.m st.l x.n t.bare)) ∧ MK N bb mb gr gs R S bx ts w1 ⟨st.m, if Tm.setE st.m st.l x.n t.bare = 0 then (x.n, t.bare) :: st.l else st.l, st.rs, st.ss⟩ w' := by
      obtain ⟨q, O, l, h3, hl, hq, hts, hk⟩ := MK.call HN.out (HM2.out.turned0 ((Turned.refl _ w2).drew)); have := setO88 h3 (HTI.out q _) HSL.out x.n hi64; rw [LT.val_eq, hl] at this; refine this.mono ?_
      rintro e w' ⟨rfl, l', hl', ha⟩
      have := hk _ l' w' ha; rw [hl'] at this; exact ⟨rfl, this⟩
    obtain ⟨E, hE⟩ : ∃ z, z = Tm.setE st.m st.l x.n t.bare := ⟨_, rfl⟩
    have hti : Tm.tieM st x.bare t.bare = (if E = 0 then .go ⟨st.m, (x.n, t.bare) :: st.l, st.rs, st.ss⟩ else .stop E st.m) := by
      unfold Tm.tieM; rw [if_pos (by rw [Tm.bare_kind]; exact hk), Tm.bare_n, hE]
    rw [← hE] at hset; have HTM := hid (HMR.out.trans hti); have HSET := hid hset; clear hk n0 n1 n2 hms hi64 hset hti hE gx; go_enter Try.func178, Try.ntmps178
    go_wp2_with fail
    rw [← HW2.out]
    go_wp2_with fail
    refine region_tail 7 (by kernel_rfl) (by kernel_rfl) ?_; simp only [List.take_succ_cons, List.take_zero, List.drop_succ_cons, List.drop_zero]
    repeat still_step
    refine wpStill_nil ?_
    go_wp2_with (go_at_call 88; (with_reducible refine HSET.out.mono ?_); rintro e w5 ⟨rfl, h5⟩; have H5 := hid h5; clear h5)
    go_ret2
    rw [HTM.out]; have h5 := H5.out
    by_cases hE : E = 0
    · subst hE
      rw [if_pos rfl] at h5 ⊢; exact ⟨⟨rfl, h5⟩, rfl⟩
    · rw [if_neg hE] at h5 ⊢
      exact ⟨⟨true, ⟨st.m, st.l, st.rs, st.ss⟩, rfl, fun _ => hE, rfl, ⟨[], rfl⟩, h5⟩, by simp [tieB, tieE, hE]⟩
  · have bx0 : (x.kind == 0) = false := by simp [hk]
    obtain ⟨b, hb⟩ : ∃ z, z = sameB x.bare t.bare := ⟨_, rfl⟩
    have hti : Tm.tieM st x.bare t.bare = (if b = true then .go st else .stop 0 st.m) := by
      unfold Tm.tieM; rw [if_neg (by rw [Tm.bare_kind]; exact hk), hb]
    have hsame : Calls Try.prog 52 #[.agg #[.int .i64 x.kind, .int .i64 x.n, .string x.name, .slice x.at_.1 x.args.length x.at_.2], .agg #[.int .i64 t.kind, .int .i64 t.n, .string t.name, .slice t.at_.1 t.args.length t.at_.2]] w2 fun e w' => e = .returned (.bool b) ∧ Turned (fun _ => False) w2 w' :=
      sameVal' (p := fun _ => True) HX.out (HTI.out _ _) HSX.out HSL.out (by rw [hb]; exact sameB_unbare x t)
    have HTM := hid (HMR.out.trans hti); have HSM := hid hsame; clear hk hti hsame hb gx
    cases b with
    | true =>
      go_enter Try.func178, Try.ntmps178
      go_wp2_with (go_at_call 52; rw [← HW2.out]; (with_reducible refine HSM.out.mono ?_); rintro e w5 ⟨rfl, T5⟩; have HT5 := hid T5; clear T5)
      go_ret2
      rw [HTM.out]; exact ⟨⟨rfl, HM2.out.turned0 HT5.out⟩, rfl⟩
    | false =>
      go_enter Try.func178, Try.ntmps178
      go_wp2_with (go_at_call 52; rw [← HW2.out]; (with_reducible refine HSM.out.mono ?_); rintro e w5 ⟨rfl, T5⟩; have HT5 := hid T5; clear T5)
      go_ret2
      rw [HTM.out]; exact ⟨⟨false, st, rfl, (fun e => by cases e), rfl, ⟨[], rfl⟩, HM2.out.turned0 HT5.out⟩, rfl⟩
end
end Go.Proofs.Ytoihjobdfjajfaa
namespace Go.Proofs.Ytoihjobdfjajfaa
open Go.RowKit Go.Maps
theorem flat_take (l : List LT) (c : Nat) (hc : c ≤ l.length) : (l.take c).flatMap LT.cells = (l.flatMap LT.cells).take (c * 4) ∧ (l.drop c).flatMap LT.cells = (l.flatMap LT.cells).drop (c * 4) := by
  have h := List.take_append_drop c l
  have hl : ((l.take c).flatMap LT.cells).length = c * 4 := by rw [LT.flat_length, List.length_take]; omega
  constructor
  · conv => rhs; rw [← h, List.flatMap_append]
    rw [List.take_left' hl]
  · conv => rhs; rw [← h, List.flatMap_append]
    rw [List.drop_left' hl]
def putL (rs xs : List LT) (c : Nat) : List LT := rs.take c ++ (xs ++ rs.drop (c + xs.length))
theorem putL_flat {rs xs : List LT} {c : Nat} (h : c + xs.length ≤ rs.length) : (putL rs xs c).flatMap LT.cells = (rs.flatMap LT.cells).take (c * 4) ++ (xs.flatMap LT.cells ++ (rs.flatMap LT.cells).drop (c * 4 + (xs.flatMap LT.cells).length)) := by
  unfold putL; rw [List.flatMap_append, List.flatMap_append, (flat_take rs c (by omega)).1, (flat_take rs (c + xs.length) h).2, LT.flat_length, Nat.add_mul]
theorem putL_bare {rs xs : List LT} {c : Nat} : (putL rs xs c).map Tm.bare = Tm.putAt (rs.map Tm.bare) c (xs.map Tm.bare) := by
  unfold putL Tm.putAt; rw [List.map_append, List.map_append, List.map_take, List.map_drop, List.length_map]
theorem info27s : (Try.prog.info? 27).map (·.size) = some 4 := by kernel_rfl
theorem Row.copied {w : World} {g R c cap : Nat} {a : Addr} {rs xs : List LT} (h : Row w 27 4 (.slice (some ⟨g, 0, none⟩) R R) R (rs.flatMap LT.cells)) (hc : c + xs.length ≤ R) (hs : ∀ j v, (xs.flatMap LT.cells)[j]? = some v → w.cell? (a.add j) = some v) :
    ∃ w', (∀ ty, (Builtin.copy_ #[22, 22] ty #[.slice (some ⟨g, c * 4, none⟩) (R - c) (R - c), .slice (some a) xs.length cap]).run Try.prog w = .ok (.int .i64 xs.length) w') ∧ Row w' 27 4 (.slice (some ⟨g, 0, none⟩) R R) R ((putL rs xs c).flatMap LT.cells) ∧ Turned (fun k => k = g) w w' := by
  have hlen := h.1; rw [LT.flat_length] at hlen
  rcases h.2 with ⟨he, h0⟩ | ⟨g', cap', cur, he, hg, h1, h2, h3, h4⟩
  · cases he
  injection he with e1 _ e3
  injection e1 with e1
  injection e1 with e1
  subst e1 e3; have hxl : (xs.flatMap LT.cells).length = xs.length * 4 := LT.flat_length xs; have hmin : Nat.min xs.length (R - c) = xs.length := Nat.min_eq_left (by omega)
  have hrun := fun ty => run_copy_n (P := Try.prog) w 22 22 ty 27 4 g (c * 4) (R - c) (R - c) a xs.length cap cur 27 (xs.flatMap LT.cells) Try.underlying22 info27s hg (by rw [hmin, hxl]) hs (by rw [hxl]; omega) (fun v hv => by
    obtain ⟨y, _, hy⟩ := List.mem_flatMap.1 hv
    exact LT.cells_one y v hy)
  rw [hmin] at hrun; refine ⟨_, hrun, ⟨by rw [LT.flat_length]; unfold putL; rw [List.length_append, List.length_append, List.length_take, List.length_drop]; omega, .inr ⟨g, R, _, rfl, setRow_heap w g cur _ 27 _ hg, Nat.le_refl _, h2, ?_, ?_⟩⟩, ⟨rfl, rfl, rfl, by simp [World.setRow], fun k _ hk => setRow_other w g k _ hk⟩⟩
  · have : cur.toList.length = cur.size := by simp
    simp only [List.size_toArray, List.length_append, List.length_take, List.length_drop, hxl, this]; omega
  · have hcl : cur.toList.length = cur.size := by simp
    have hX := List.take_append_drop (R * 4) cur.toList; rw [h4] at hX; have hXl : (rs.flatMap LT.cells).length = R * 4 := h.1; rw [putL_flat (by omega)]
    have t1 : cur.toList.take (c * 4) = (rs.flatMap LT.cells).take (c * 4) := by
      conv => lhs; rw [← hX]
      rw [List.take_append_of_le_length (by omega)]
    have t2 : cur.toList.drop (c * 4 + (xs.flatMap LT.cells).length) = (rs.flatMap LT.cells).drop (c * 4 + (xs.flatMap LT.cells).length) ++ cur.toList.drop (R * 4) := by
      conv => lhs; rw [← hX]
      rw [List.drop_append_of_le_length (by omega)]
    simp only []; rw [t1, t2, List.append_assoc, ← List.append_assoc (xs.flatMap LT.cells), ← List.append_assoc]; refine List.take_left' ?_; simp only [List.length_append, List.length_take, List.length_drop, hXl, hxl]; omega
section
variable {N bb mb gr gs R S : Nat} {bx : List (Nat × Obj)} {ts : List LT} {w1 W W' W0 : World} {st st' : Tm.MS} {x t : LT}
theorem MK.copyArgs (hN : N = w1.heap.size) (h : MK N bb mb gr gs R S bx ts w1 st W) (hx : x ∈ ts) {c : Nat} (hc : c + x.args.length ≤ R) (h0 : 0 < x.args.length) :
    ∃ ad w', x.at_.1 = some ad ∧ (∀ ty, (Builtin.copy_ #[22, 22] ty #[.slice (some ⟨gr, c * 4, none⟩) (R - c) (R - c), .slice (some ad) x.args.length x.at_.2]).run Try.prog W = .ok (.int .i64 x.args.length) w') ∧ MK N bb mb gr gs R S bx ts w1 ⟨st.m, st.l, Tm.putAt st.rs c x.bare.args, st.ss⟩ w' := by
  obtain ⟨q, l, O, rs, ss, h1, h2, h3, h4, h5, h6, ⟨r1, r2, r3⟩, ⟨s1, s2, s3⟩, h9, h10, h11, h12⟩ := h; have hxi := h12 x hx; obtain ⟨b, o, hbo, _, hcells⟩ := hxi.lies (by omega); obtain ⟨w', hrun, hrow, Tq⟩ := r1.copied (xs := x.args) (a := ⟨b, o, none⟩) (cap := x.at_.2) hc (fun j v hv => by rw [Addr.add_lit]; exact hcells j v hv); have hgr := h9 gr (.inr (.inl rfl))
  have up : ∀ {y : LT}, y.In q W → y.In q w' := fun {y} hy => LT.In.turned Tq (fun k _ hk e => hgr.2.2 (e ▸ hk)) (fun _ _ q => q) y hy
  refine ⟨⟨b, o, none⟩, w', hbo, hrun, q, l, O, putL rs x.args c, ss, h1, h2, h3.turned Tq (fun k hk e => ⟨fun c => hgr.2.1 (e ▸ c), fun c => hgr.2.2 (e ▸ c)⟩), h4, h5.step Tq (fun k hk e => by have := hgr.1; omega), (Tq.block mb (Array.getElem?_eq_some_iff.1 h6).1 h10.1).trans h6, ⟨hrow, by rw [putL_bare, r2, Tm.bare_args, Tm.bares_eq], fun y hy => ?_⟩, ⟨s1.turned Tq (fun k hk e => by simp [Value.ownBlock] at hk; exact h10.2.2 (e.symm.trans hk.symm)), s2, fun y hy => up (s3 y hy)⟩, h9, h10, fun b hb => ⟨(Tq.block _ (Array.getElem?_eq_some_iff.1 (h11 b hb).1).1 (h11 b hb).2.2.2.1).trans (h11 b hb).1, (h11 b hb).2⟩, fun y hy => up (h12 y hy)⟩; unfold putL at hy
  rcases List.mem_append.1 hy with hy | hy
  · exact up (r3 y (List.mem_of_mem_take hy))
  · rcases List.mem_append.1 hy with hy | hy
    · exact up ((LT.ins_iff _).1 hxi.args y hy)
    · exact up (r3 y (List.mem_of_mem_drop hy))
end
end Go.Proofs.Ytoihjobdfjajfaa
namespace Go.Proofs.Ytoihjobdfjajfaa
open Lib (hid)
open Go.RowKit Go.Maps
section
variable {N bb mb gr gs R S : Nat} {bx : List (Nat × Obj)} {ts : List LT} {w1 W W' W0 : World} {st st' : Tm.MS} {x t : LT}
set_option maxRecDepth 100000 in
set_option maxHeartbeats 3200000 in
theorem comp179a {op name : ByteArray} {a n : Int} {b c : Nat} (hN : N = w1.heap.size) (h : MK N bb mb gr gs R S bx ts w1 st W) (hx : x ∈ ts) (hk : ¬ x.kind = 0) (hb : 1 ≤ b) (hc : c + b ≤ R) (hR : R ≤ 2000) :
    Calls Try.prog 179 #[.pointer (some ⟨mb, 0, none⟩), .agg #[.int .i64 x.kind, .int .i64 x.n, .string x.name, .slice x.at_.1 x.args.length x.at_.2], .agg #[.string op, .int .i64 a, .int .i64 (b : Int), .int .i64 (c : Int), .int .i64 n, .string name]] W (MRQ (MK N bb mb gr gs R S bx ts w1) st (Tm.compM st x.bare ⟨op, a, (b : Int), (c : Int), n, name⟩)) := by
  have h2 := twoBox W (.cells #[.int .i64 x.kind, .int .i64 x.n, .string x.name, .slice x.at_.1 x.args.length x.at_.2] 27) (.cells #[.string op, .int .i64 a, .int .i64 (b : Int), .int .i64 (c : Int), .int .i64 n, .string name] 139); obtain ⟨w2, hw2⟩ : ∃ z, z = (W.alloc (.cells #[.int .i64 x.kind, .int .i64 x.n, .string x.name, .slice x.at_.1 x.args.length x.at_.2] 27)).alloc (.cells #[.string op, .int .i64 a, .int .i64 (b : Int), .int .i64 (c : Int), .int .i64 n, .string name] 139) := ⟨_, rfl⟩; rw [← hw2] at h2; have hm2 := h.turned0 h2.1; have hxl := (hm2.terms x hx).len
  have hxa : x.args.length ≤ 9223372036854775807 := by have := hxl.1; have := hxl.2.1; unfold maxLen at this; omega
  obtain ⟨MR, hMR⟩ : ∃ z, z = Tm.compM st x.bare ⟨op, a, (b : Int), (c : Int), n, name⟩ := ⟨_, rfl⟩
  have hcm : MR = (if x.name = name ∧ (x.args.length : Int) = (b : Int) then .go ⟨st.m, st.l, Tm.putAt st.rs c x.bare.args, st.ss⟩ else .stop 0 st.m) := by
    rw [hMR]; unfold Tm.compM; rw [if_neg (by rw [Tm.bare_kind]; exact hk)]; simp only [Tm.bare_name, Tm.bare_arity, Int.toNat_natCast]
  rw [← hMR]; have HCM := hid hcm; have HM2 := hid hm2; have HW2 := hid hw2; have HN := hid hN; have HXT := hid hx
  have bk : (x.kind != 0) = true := by simp [hk]
  obtain ⟨k0, k1, k2, k3, _⟩ := cells4 h2.2.2.1; obtain ⟨m0, m1, m2, m3, m4, m5⟩ := cells6 h2.2.2.2; obtain ⟨b0, b1, b2, _⟩ := rec3b hm2.mbox; clear h hm2 hw2 hMR hcm hN hx hk hxl
  by_cases h1 : x.name = name
  · have t1 : (x.name.toList != name.toList) = false := by simp [h1]
    have t1' : (x.name.toList == name.toList) = true := by simp [h1]
    by_cases hl : x.args.length = b
    · have t2 : ((x.args.length : Int) != (b : Int)) = false := by simp [hl]
      have HE : Hid (MR = .go ⟨st.m, st.l, Tm.putAt st.rs c x.bare.args, st.ss⟩) := by show _ = _; rw [HCM.out, if_pos ⟨h1, by omega⟩]
      obtain ⟨ad, w', had, hcp, hmk⟩ := MK.copyArgs HN.out (HM2.out.turned0 ((Turned.refl _ w2).drew)) HXT.out (c := c) (by omega) (by omega); rw [had] at k3; have HMK := hid hmk; have HAD := hid had
      have hcr : c ≤ R := by omega
      have hcr2 : (c : Int) ≤ (R : Int) := by omega
      have HL := hid hl; clear h1 hl hmk had h2; go_enter Try.func179, Try.ntmps179
      go_wp2_with fail
      rw [← HW2.out]
      go_wp2_with fail
      refine region_tail 9 (by kernel_rfl) (by kernel_rfl) ?_; simp only [List.take_succ_cons, List.take_zero, List.drop_succ_cons, List.drop_zero]
      repeat still_step
      refine wpStill_nil ?_
      go_wp2_with fail
      go_ret2
      rw [HE.out]; exact ⟨rfl, HMK.out⟩
    · have t2 : ((x.args.length : Int) != (b : Int)) = true := by simp; omega
      have HE : Hid (MR = .stop 0 st.m) := by show _ = _; rw [HCM.out, if_neg (fun e => hl (by omega))]
      clear h1 hl h2; go_enter Try.func179, Try.ntmps179
      go_wp2_with fail
      rw [← HW2.out]
      try go_wp2_with fail
      go_ret2
      rw [HE.out]; exact ⟨false, st, rfl, (fun e => by cases e), rfl, ⟨[], rfl⟩, HM2.out⟩
  · have t1 : (x.name.toList != name.toList) = true := by rw [bne, str_neq h1]; rfl
    have t1' : (x.name.toList == name.toList) = false := str_neq h1
    have HE : Hid (MR = .stop 0 st.m) := by show _ = _; rw [HCM.out, if_neg (fun e => h1 e.1)]
    clear h1 h2; go_enter Try.func179, Try.ntmps179
    go_wp2_with fail
    rw [← HW2.out]
    try go_wp2_with fail
    go_ret2
    rw [HE.out]; exact ⟨false, st, rfl, (fun e => by cases e), rfl, ⟨[], rfl⟩, HM2.out⟩
end
end Go.Proofs.Ytoihjobdfjajfaa
namespace Go.Proofs.Ytoihjobdfjajfaa
open Lib (hid)
open Go.RowKit Go.Maps
theorem comp37q {p q : Nat → Prop} {w : World} {a : Option Addr} {c : Nat} {l : List LT} (s : ByteArray) (hs : s.size ≤ maxLen) (h : LT.Sl p w a c l) (hi : LT.Ins q w l) (hn : l.length ≤ 65536) :
    Calls Try.prog 37 #[.string s, .slice a l.length c] w fun e w' => ∃ d, e = .returned (LT.val (.mk 2 0 s d l)) ∧ LT.In (fun k => q k ∨ w.heap.size ≤ k) w' (.mk 2 0 s d l) ∧ Turned (fun _ => False) w w' := by
  have hcl : ∀ o, Calls Try.prog 128 #[.slice a l.length c] (w.alloc o) _ := fun o => clone128 (h.turned0 ((Turned.refl _ w).alloc o)) hn
  have HCL := hid hcl; clear hcl; go_enter Try.func37, Try.ntmps37
  go_wp2_with (go_at_call 128; refine (HCL.out _).mono ?_; rintro e w2 ⟨a', c', rfl, hv, hl, ht⟩; obtain ⟨hbox, hlt⟩ := box4 ht; obtain ⟨c0, c1, c2, c3, f0, f1, f2, f3⟩ := cells4 hbox; have HB := hid hbox; clear hbox)
  have T0 := ((Turned.refl (fun _ => False) w).alloc (.cells #[.int .i64 0, .int .i64 0, .string ⟨#[]⟩, .slice none 0 0] 27)).trans ht
  have hsz : w.heap.size ≤ (w.alloc (.cells #[.int .i64 0, .int .i64 0, .string ⟨#[]⟩, .slice none 0 0] 27)).heap.size := by simp
  have hset := set4 (a' := .int .i64 2) (b' := .int .i64 0) (c' := .string s) (d' := .slice a' l.length c') HB.out; have T4 := turned4 (a := .int .i64 2) (b := .int .i64 0) (c := .string s) (d := .slice a' l.length c') T0 (Nat.le_refl _)
  have hrow : Row ((((w2.setCell ⟨w.heap.size, 0, none⟩ (.int .i64 2)).setCell ⟨w.heap.size, 1, none⟩ (.int .i64 0)).setCell ⟨w.heap.size, 2, none⟩ (.string s)).setCell ⟨w.heap.size, 3, none⟩ (.slice a' l.length c')) 27 4 (.slice a' l.length c') l.length (l.flatMap LT.cells) := by
    have hne : ∀ j, (Value.slice a' l.length c').ownBlock ≠ some (Addr.block ⟨w.heap.size, j, none⟩) := fun j e => by
      have := hl _ e; simp at this; omega
    exact (((hv.setCell (hne 0) _).setCell (hne 1) _).setCell (hne 2) _).setCell (hne 3) _
  refine bodyPost_ret (v := .agg #[.int .i64 2, .int .i64 0, .string s, .slice a' l.length c']) (results_cell_row Try.results37 _ _ w.heap.size 27 _ (0, 0) _ rfl hset Try.underlying27 rfl (by kernel_rfl)) rfl ⟨(a', c'), rfl, ?_, T4⟩; have hi4 : LT.Ins q _ l := (LT.ins_iff _).2 (fun x hx => ((LT.ins_iff _).1 hi x hx).turned0 T4); obtain ⟨_, hsl⟩ := LT.Sl.of_row (p := fun k => q k ∨ w.heap.size ≤ k) hrow (fun k hk => .inr (Nat.le_trans hsz (hl k hk))) (LT.Ins.mono hi4 (fun _ _ hk => .inl hk)); exact hsl.in_ (i64_lit 2 (by omega)) (i64_lit 0 (by omega)) hs
theorem LT.In.none {p q : Nat → Prop} {W W' : World} {x : LT} (h : x.In p W) (hx : x.args = []) : x.In q W' := by
  obtain ⟨k, n, s, d, aa⟩ := x; simp only [Tm.args] at hx; subst hx; obtain ⟨h1, h2, h3, h4, h5, h6, h7, h8⟩ := h; exact ⟨h1, h2, h3, h4, h5, h6, fun hp => absurd hp (by simp), trivial⟩
section
variable {N bb mb gr gs R S : Nat} {bx bx' : List (Nat × Obj)} {ts ts' : List LT} {w1 W W' W0 : World} {st st' : Tm.MS} {x t : LT}
theorem MK.sub (h : MK N bb mb gr gs R S bx ts w1 st W) (hb : ∀ b ∈ bx', b ∈ bx) (ht : ∀ x ∈ ts', x ∈ ts) : MK N bb mb gr gs R S bx' ts' w1 st W := by
  obtain ⟨q, l, O, rs, ss, h1, h2, h3, h4, h5, h6, h7, h8, h9, h10, h11, h12⟩ := h; exact ⟨q, l, O, rs, ss, h1, h2, h3, h4, h5, h6, h7, h8, h9, h10, fun b hb' => h11 b (hb b hb'), fun x hx => h12 x (ht x hx)⟩
theorem MK.leaf (h : MK N bb mb gr gs R S bx ts w1 st W) (hx : ∀ (p : Nat → Prop) (w : World), x.In p w) : MK N bb mb gr gs R S bx (x :: ts) w1 st W :=
  h.keep (Turned.refl _ _) (hx _ _)
theorem MK.setReg (hN : N = w1.heap.size) (h : MK N bb mb gr gs R S bx (x :: ts) w1 st W) {i : Nat} (hi : i < R) :
    MK N bb mb gr gs R S bx (x :: ts) w1 ⟨st.m, st.l, st.rs.set i x.bare, st.ss⟩ ((((W.setCell ⟨gr, i * 4, none⟩ (.int .i64 x.kind)).setCell ⟨gr, i * 4 + 1, none⟩ (.int .i64 x.n)).setCell ⟨gr, i * 4 + 2, none⟩ (.string x.name)).setCell ⟨gr, i * 4 + 3, none⟩ (.slice x.at_.1 x.args.length x.at_.2)) := by
  obtain ⟨q, l, O, rs, ss, h1, h2, h3, h4, h5, h6, ⟨r1, r2, r3⟩, ⟨s1, s2, s3⟩, h9, h10, h11, h12⟩ := h
  have Tq : Turned (fun k => k = gr) W ((((W.setCell ⟨gr, i * 4, none⟩ (.int .i64 x.kind)).setCell ⟨gr, i * 4 + 1, none⟩ (.int .i64 x.n)).setCell ⟨gr, i * 4 + 2, none⟩ (.string x.name)).setCell ⟨gr, i * 4 + 3, none⟩ (.slice x.at_.1 x.args.length x.at_.2)) :=
    ((((Turned.refl (fun k => k = gr) W).setCell (p := ⟨gr, i * 4, none⟩) (.inr rfl) _).setCell (p := ⟨gr, i * 4 + 1, none⟩) (.inr rfl) _).setCell (p := ⟨gr, i * 4 + 2, none⟩) (.inr rfl) _).setCell (p := ⟨gr, i * 4 + 3, none⟩) (.inr rfl) _
  have hgr := h9 gr (.inr (.inl rfl))
  have up : ∀ {y : LT}, y.In q W → y.In q _ := fun {y} hy => LT.In.turned Tq (fun k _ hk e => hgr.2.2 (e ▸ hk)) (fun _ _ q => q) y hy
  have e2 := r1.1; rw [LT.flat_length] at e2; have t1 := r1.setAt (off := i * 4) (by omega) (.int .i64 x.kind); have t2 := t1.setAt (off := i * 4 + 1) (by omega) (.int .i64 x.n); have t3 := t2.setAt (off := i * 4 + 2) (by omega) (.string x.name); have t4 := t3.setAt (off := i * 4 + 3) (by omega) (.slice x.at_.1 x.args.length x.at_.2); rw [flat_set (by omega)] at t4; refine ⟨q, l, O, rs.set i x, ss, h1, h2, h3.turned Tq (fun k hk e => ⟨fun c => hgr.2.1 (e ▸ c), fun c => hgr.2.2 (e ▸ c)⟩), h4, h5.step Tq (fun k hk e => by have := hgr.1; omega), (Tq.block mb (Array.getElem?_eq_some_iff.1 h6).1 h10.1).trans h6, ⟨t4, by rw [List.map_set, r2], fun y hy => ?_⟩, ⟨s1.turned Tq (fun k hk e => by simp [Value.ownBlock] at hk; exact h10.2.2 (e.symm.trans hk.symm)), s2, fun y hy => up (s3 y hy)⟩, h9, h10, fun b hb => ⟨(Tq.block _ (Array.getElem?_eq_some_iff.1 (h11 b hb).1).1 (h11 b hb).2.2.2.1).trans (h11 b hb).1, (h11 b hb).2⟩, fun y hy => up (h12 y hy)⟩
  rcases List.mem_or_eq_of_mem_set hy with hy | rfl
  · exact up (r3 y hy)
  · exact up (h12 y (List.mem_cons_self ..))
theorem MK.regAt (h : MK N bb mb gr gs R S bx ts w1 st W) {i : Nat} (hi : i < R) : ∃ c0 c1 c2 c3, (W.cell? ⟨gr, i * 4, none⟩ = some c0 ∧ W.cell? ⟨gr, i * 4 + 1, none⟩ = some c1 ∧ W.cell? ⟨gr, i * 4 + 2, none⟩ = some c2 ∧ W.cell? ⟨gr, i * 4 + 3, none⟩ = some c3) ∧ W.frozen? ⟨gr, i * 4, none⟩ = false ∧ W.frozen? ⟨gr, i * 4 + 1, none⟩ = false ∧ W.frozen? ⟨gr, i * 4 + 2, none⟩ = false ∧ W.frozen? ⟨gr, i * 4 + 3, none⟩ = false := by
  have hl := h.lens.1; obtain ⟨r, _, hc, _⟩ := h.reg (List.getElem?_eq_getElem (show i < st.rs.length by omega)); obtain ⟨q, l, O, rs, ss, h1, h2, h3, h4, h5, h6, ⟨r1, _⟩, _⟩ := h; exact ⟨_, _, _, _, hc, r1.free rfl _, r1.free rfl _, r1.free rfl _, r1.free rfl _⟩
theorem MK.slotAt (h : MK N bb mb gr gs R S bx ts w1 st W) {i : Nat} (hi : i < S) : ∃ c0 c1 c2 c3, (W.cell? ⟨gs, i * 4, none⟩ = some c0 ∧ W.cell? ⟨gs, i * 4 + 1, none⟩ = some c1 ∧ W.cell? ⟨gs, i * 4 + 2, none⟩ = some c2 ∧ W.cell? ⟨gs, i * 4 + 3, none⟩ = some c3) ∧ W.frozen? ⟨gs, i * 4, none⟩ = false ∧ W.frozen? ⟨gs, i * 4 + 1, none⟩ = false ∧ W.frozen? ⟨gs, i * 4 + 2, none⟩ = false ∧ W.frozen? ⟨gs, i * 4 + 3, none⟩ = false := by
  have hl := h.lens.2; obtain ⟨r, _, hc, _⟩ := h.slot (List.getElem?_eq_getElem (show i < st.ss.length by omega)); obtain ⟨q, l, O, rs, ss, h1, h2, h3, h4, h5, h6, _, ⟨s1, _⟩, _⟩ := h; exact ⟨_, _, _, _, hc, s1.free rfl _, s1.free rfl _, s1.free rfl _, s1.free rfl _⟩
theorem MK.comp37 (hN : N = w1.heap.size) (h : MK N bb mb gr gs R S bx ts w1 st W) (s : ByteArray) (hs : s.size ≤ maxLen) {b c : Nat} (hc : c + b ≤ R) (hR : R ≤ 2000) (h0 : ∀ y ∈ (st.rs.drop c).take b, y.args = []) :
    Calls Try.prog 37 #[.string s, .slice (some ⟨gr, c * 4, none⟩) b (R - c)] W fun e w' => ∃ y : LT, e = .returned y.val ∧ y.bare = .mk 2 0 s () ((st.rs.drop c).take b) ∧ Turned (fun _ => False) W w' ∧ MK N bb mb gr gs R S bx (y :: ts) w1 st w' := by
  have hk := h; obtain ⟨q, l, O, rs, ss, h1, h2, h3, h4, h5, h6, ⟨r1, r2, r3⟩, ⟨s1, s2, s3⟩, h9, h10, h11, h12⟩ := h; have e2 := r1.1; rw [LT.flat_length] at e2
  have hL : ((rs.drop c).take b).map Tm.bare = (st.rs.drop c).take b := by rw [List.map_take, List.map_drop, r2]
  have hlen : ((rs.drop c).take b).length = b := by rw [List.length_take, List.length_drop]; omega
  have hno : ∀ y ∈ (rs.drop c).take b, y.args = [] := fun y hy => by
    have := h0 y.bare (by rw [← hL]; exact List.mem_map_of_mem hy); rw [Tm.bare_args, Tm.bares_eq] at this; exact List.map_eq_nil_iff.1 this
  have hin : LT.Ins (fun _ => False) W ((rs.drop c).take b) := (LT.ins_iff _).2 (fun y hy => (r3 y (List.mem_of_mem_drop (List.mem_of_mem_take hy))).none (hno y hy))
  have hsl : LT.Sl (fun _ => True) W (some ⟨gr, c * 4, none⟩) (R - c) ((rs.drop c).take b) := by
    refine ⟨fun e => (by cases e), fun _ => ⟨gr, c * 4, rfl, trivial, fun j v hv => r1.cells rfl _ _ ?_⟩, LT.Ins.mono hin (fun _ _ f => f.elim), by rw [hlen]; omega, by unfold maxLen; omega⟩
    have hj : j < b * 4 := by
      have := (List.getElem?_eq_some_iff.1 hv).1; rw [LT.flat_length, hlen] at this; exact this
    have hf := (flat_take (rs.drop c) b (by rw [List.length_drop]; omega)).1; rw [hf, List.getElem?_take, if_pos hj, (flat_take rs c (by omega)).2, List.getElem?_drop] at hv; exact hv
  have hcl := comp37q (q := fun _ => False) s hs hsl hin (by rw [hlen]; omega); rw [hlen] at hcl; refine hcl.mono ?_
  rintro e w' ⟨d, rfl, hy, T⟩
  refine ⟨_, rfl, ?_, T, hk.keep T (hy.mono (fun k _ h => h.elim (fun f => f.elim) (fun h => .inr h)))⟩; rw [Tm.bare, Tm.bares_eq, hL]
end
end Go.Proofs.Ytoihjobdfjajfaa
namespace Go.Proofs.Ytoihjobdfjajfaa
open Lib (hid)
open Go.RowKit Go.Maps
theorem putAt_news (rs : List (Tm Unit)) (c m j : Nat) (h : c + j < rs.length) : Tm.putAt rs c (Tm.news m (j + 1)) = (Tm.putAt rs c (Tm.news m j)).set (c + j) (leaf 0 ((m + j : Nat) : Int) ByteArray.empty : LT).bare := by
  apply List.ext_getElem?; intro i; have l1 : (Tm.news m (j + 1)).length = j + 1 := Tm.news_length ..; have l2 : (Tm.news m j).length = j := Tm.news_length ..; have hl : (Tm.putAt rs c (Tm.news m j)).length = rs.length := Tm.putAt_length (by rw [l2]; omega); rw [List.getElem?_set]
  by_cases hi : c + j = i
  · subst hi
    rw [if_pos rfl, if_pos (by omega), Tm.putAt_new (by rw [l1]; omega) (by rw [l1]; omega), Tm.news_at (by omega)]; rfl
  · rw [if_neg hi]
    rcases Nat.lt_or_ge i c with hc | hc
    · rw [Tm.putAt_old (by rw [l1]; omega) hc, Tm.putAt_old (by rw [l2]; omega) hc]
    · obtain ⟨d, rfl⟩ : ∃ d, i = c + d := ⟨i - c, by omega⟩
      rcases Nat.lt_or_ge d j with hd | hd
      · rw [Tm.putAt_new (by rw [l1]; omega) (by rw [l1]; omega), Tm.putAt_new (by rw [l2]; omega) (by rw [l2]; omega), Tm.news_at (by omega), Tm.news_at (by omega)]
      · have hx : ∀ (xs : List (Tm Unit)), xs.length ≤ d → (Tm.putAt rs c xs)[c + d]? = rs[c + d]? := fun xs hx => by
          unfold Tm.putAt
          have : (rs.take c).length = c := by rw [List.length_take]; omega
          rw [List.getElem?_append_right (by omega), this, Nat.add_sub_cancel_left, List.getElem?_append_right hx, List.getElem?_drop]; congr 1; omega
        rw [hx _ (by rw [l1]; omega), hx _ (by rw [l2]; omega)]
theorem putAt_none (rs : List (Tm Unit)) (c m : Nat) : Tm.putAt rs c (Tm.news m 0) = rs := by
  unfold Tm.putAt Tm.news; simp
theorem putAt_part (rs xs : List (Tm Unit)) (c : Nat) (h : c + xs.length ≤ rs.length) : ((Tm.putAt rs c xs).drop c).take xs.length = xs := by
  unfold Tm.putAt; rw [List.drop_left' (by rw [List.length_take]; omega), List.take_left]
theorem news_args (m k : Nat) : ∀ y ∈ Tm.news m k, y.args = [] := by
  intro y hy; unfold Tm.news at hy; obtain ⟨i, _, rfl⟩ := List.mem_map.1 hy; rfl
theorem flats_flat : ∀ (l : List LT), (∀ y ∈ l, y.args = []) → ∀ x ∈ Tm.flats l, x.args = []
  | [], _, x, hx => by cases hx
  | y :: l, h, x, hx => by
    rw [Tm.flats, Tm.flat_eq, h y (List.mem_cons_self ..)] at hx
    rcases List.mem_append.1 hx with hx | hx
    · rcases List.mem_cons.1 hx with rfl | hx
      · exact h x (List.mem_cons_self ..)
      · cases hx
    · exact flats_flat l (fun z hz => h z (List.mem_cons_of_mem _ hz)) x hx
theorem slim_newT {y : LT} {s : ByteArray} {m k : Nat} (h : y.bare = .mk 2 0 s () (Tm.news m k)) (hk : k ≤ 12) : slim y := by
  have ha : y.args.map Tm.bare = Tm.news m k := by
    rw [← Tm.bares_eq, ← Tm.bare_args, h]; rfl
  have hl : y.args.length = k := by rw [← List.length_map (f := Tm.bare), ha, Tm.news_length]
  have hn : ∀ z ∈ y.args, z.args = [] := fun z hz => by
    have := news_args m k z.bare (by rw [← ha]; exact List.mem_map_of_mem hz); rw [Tm.bare_args, Tm.bares_eq] at this; exact List.map_eq_nil_iff.1 this
  intro x hx; rw [Tm.flat_eq] at hx
  rcases List.mem_cons.1 hx with rfl | hx
  · omega
  · rw [flats_flat _ hn x hx]
    exact Nat.zero_le _
def CompS (mk : LT → World → Prop) (nt : Tm Unit) (E : Int) (Q : World → Prop) (w0 : World) : List Value → World → Prop
  | [], W => Turned (fun _ => False) w0 W
  | [a], W => Turned (fun _ => False) w0 W ∧ ∃ y : LT, a = .agg #[.int .i64 y.kind, .int .i64 y.n, .string y.name, .slice y.at_.1 y.args.length y.at_.2] ∧ y.bare = nt ∧ mk y W
  | [_, b], W => b = .int .i64 E ∧ Q W
  | _, _ => False
section
variable {mk : LT → World → Prop} {nt : Tm Unit} {E : Int} {Q : World → Prop} {w0 : World}
theorem CompS.turned0 (hm : ∀ y W W', mk y W → Turned (fun _ => False) W W' → mk y W') (hQ : ∀ W W', Q W → Turned (fun _ => False) W W' → Q W') : ∀ (hs : List Value) (w w' : World), CompS mk nt E Q w0 hs w → Turned (fun _ => False) w w' → CompS mk nt E Q w0 hs w'
  | [], _, _, h, T => Turned.trans h T
  | [_], _, _, ⟨h, y, h1, h2, h3⟩, T => ⟨h.trans T, y, h1, h2, hm _ _ _ h3 T⟩
  | [_, _], _, _, h, T => ⟨h.1, hQ _ _ h.2 T⟩
  | _ :: _ :: _ :: _, _, _, h, _ => h.elim
theorem CompS.early : ∀ (hs : List Value) (W : World), hs.length ≤ 1 → CompS mk nt E Q w0 hs W → Turned (fun _ => False) w0 W
  | [], _, _, h => h
  | [_], _, _, h => h.1
  | _ :: _ :: _, _, h, _ => absurd h (by simp)
theorem CompS.val : ∀ (hs : List Value) (W : World) {x : Value}, CompS mk nt E Q w0 hs W → hs[1]? = some x → x = .int .i64 E
  | [], _, _, _, e => by simp at e
  | [_], _, _, _, e => by simp at e
  | [_, _], _, _, h, e => by simp at e; rw [← e]; exact h.1
  | _ :: _ :: _ :: _, _, _, h, _ => h.elim
end
section
variable {N bb mb gr gs R S : Nat} {bx : List (Nat × Obj)} {ts : List LT} {w1 w : World} {st st' : Tm.MS} {x t : LT}
set_option maxRecDepth 100000 in
set_option maxHeartbeats 3200000 in
theorem comp179b {op name : ByteArray} {a n : Int} {b c : Nat} (hN : N = w1.heap.size) (h : MK N bb mb gr gs R S bx ts w1 st w) (hx : x ∈ ts) (hk : x.kind = 0) (hb : 1 ≤ b) (hb12 : b ≤ 12) (hc : c + b ≤ R) (hR : R ≤ 2000) (hm : st.m + b ≤ 65536) (hs : name.size ≤ maxLen) (h64 : I64 x.n) :
    Calls Try.prog 179 #[.pointer (some ⟨mb, 0, none⟩), .agg #[.int .i64 x.kind, .int .i64 x.n, .string x.name, .slice x.at_.1 x.args.length x.at_.2], .agg #[.string op, .int .i64 a, .int .i64 (b : Int), .int .i64 (c : Int), .int .i64 n, .string name]] w (MRQ (MK N bb mb gr gs R S bx ts w1) st (Tm.compM st x.bare ⟨op, a, (b : Int), (c : Int), n, name⟩)) := by
  have h2 := twoBox w (.cells #[.int .i64 x.kind, .int .i64 x.n, .string x.name, .slice x.at_.1 x.args.length x.at_.2] 27) (.cells #[.string op, .int .i64 a, .int .i64 (b : Int), .int .i64 (c : Int), .int .i64 n, .string name] 139)
  have hm2 : MK N bb mb gr gs R S ((w.heap.size + 1, .cells #[.string op, .int .i64 a, .int .i64 (b : Int), .int .i64 (c : Int), .int .i64 n, .string name] 139 (0, 0)) :: (w.heap.size, .cells #[.int .i64 x.kind, .int .i64 x.n, .string x.name, .slice x.at_.1 x.args.length x.at_.2] 27 (0, 0)) :: bx) ts w1 st ((w.alloc (.cells #[.int .i64 x.kind, .int .i64 x.n, .string x.name, .slice x.at_.1 x.args.length x.at_.2] 27)).alloc (.cells #[.string op, .int .i64 a, .int .i64 (b : Int), .int .i64 (c : Int), .int .i64 n, .string name] 139)) := by
    have := (h.box (.cells #[.int .i64 x.kind, .int .i64 x.n, .string x.name, .slice x.at_.1 x.args.length x.at_.2] 27)).box (.cells #[.string op, .int .i64 a, .int .i64 (b : Int), .int .i64 (c : Int), .int .i64 n, .string name] 139); rw [show (w.alloc (.cells #[.int .i64 x.kind, .int .i64 x.n, .string x.name, .slice x.at_.1 x.args.length x.at_.2] 27)).heap.size = w.heap.size + 1 by simp] at this; exact this
  obtain ⟨w2, hw2⟩ : ∃ z, z = (w.alloc (.cells #[.int .i64 x.kind, .int .i64 x.n, .string x.name, .slice x.at_.1 x.args.length x.at_.2] 27)).alloc (.cells #[.string op, .int .i64 a, .int .i64 (b : Int), .int .i64 (c : Int), .int .i64 n, .string name] 139) := ⟨_, rfl⟩; rw [← hw2] at h2 hm2; have hlens := h.lens; obtain ⟨MR, hMR⟩ : ∃ z, z = Tm.compM st x.bare ⟨op, a, (b : Int), (c : Int), n, name⟩ := ⟨_, rfl⟩; obtain ⟨E, hE⟩ : ∃ z, z = Tm.setE (st.m + b) st.l x.n (.mk 2 0 name () (Tm.news st.m b)) := ⟨_, rfl⟩
  have hcm : MR = (if E = 0 then .go ⟨st.m + b, (x.n, .mk 2 0 name () (Tm.news st.m b)) :: st.l, Tm.putAt st.rs c (Tm.news st.m b), st.ss⟩ else .stop E (st.m + b)) := by
    rw [hMR]; unfold Tm.compM Tm.newT; rw [if_pos (by rw [Tm.bare_kind]; exact hk)]; simp only [Int.toNat_natCast, Tm.bare_n]; rw [if_pos hm, hE]
  rw [← hMR]
  obtain ⟨l2, hl2⟩ : ∃ z, z = if E = 0 then (x.n, .mk 2 0 name () (Tm.news st.m b)) :: st.l else st.l := ⟨_, rfl⟩
  have HL2 := hid hl2; have HB12 := hid hb12; have HCM := hid hcm; have HM2 := hid hm2; have HW2 := hid hw2; have HN := hid hN; have HXT := hid hx; have HE := hid hE; have HLS := hid hlens; have HM := hid hm; have HC := hid hc; have HS := hid hs; have H64 := hid h64
  have bk : (x.kind != 0) = false := by simp [hk]
  obtain ⟨k0, k1, k2, k3, _⟩ := cells4 h2.2.2.1; obtain ⟨m0, m1, m2, m3, m4, m5⟩ := cells6 h2.2.2.2; obtain ⟨b0, b1, b2, _⟩ := rec3b hm2.mbox; clear hl2 hb12 h hm2 hw2 hMR hcm hN hx hk hE hlens hm hs h64 h2; go_enter Try.func179, Try.ntmps179
  go_wp2_with fail
  rw [← HW2.out]
  go_wp2_with fail
  go_loopg [39] b (fun k i wr => ∃ j : Nat, Hid (j + k = b) ∧ j ≤ b ∧ i = .int .i64 j ∧ Hid (MK N bb mb gr gs R S ((w.heap.size + 1, .cells #[.string op, .int .i64 a, .int .i64 (b : Int), .int .i64 (c : Int), .int .i64 n, .string name] 139 (0, 0)) :: (w.heap.size, .cells #[.int .i64 x.kind, .int .i64 x.n, .string x.name, .slice x.at_.1 x.args.length x.at_.2] 27 (0, 0)) :: bx) ts w1 ⟨st.m + j, st.l, Tm.putAt st.rs c (Tm.news st.m j), st.ss⟩ wr))
  case atStart => exact ⟨0, Nat.zero_add _, Nat.zero_le _, rfl, by show MK _ _ _ _ _ _ _ _ _ _ _ _; rw [putAt_none]; exact HM2.out⟩
  case round =>
    obtain ⟨j, HG, hj, rfl, HMJ⟩ := hrel
    by_cases hjl : j < b
    · have dj : decide ((j : Int) < (b : Int)) = true := decide_eq_true (by omega)
      obtain ⟨m', hm'⟩ : ∃ z, z = st.m + j := ⟨_, rfl⟩; rw [← hm'] at HMJ; have hmj := HMJ.out; obtain ⟨q, O, l, h3, hl, hq, hts, hkk⟩ := MK.call HN.out hmj
      have hfr : Calls Try.prog 87 #[.pointer (some ⟨bb, 0, none⟩)] wr fun e w' => e = .returned (.tuple #[.agg #[.int .i64 0, .int .i64 (m' : Int), .string ByteArray.empty, .slice none 0 0], .bool true]) ∧ MK N bb mb gr gs R S ((w.heap.size + 1, .cells #[.string op, .int .i64 a, .int .i64 (b : Int), .int .i64 (c : Int), .int .i64 n, .string name] 139 (0, 0)) :: (w.heap.size, .cells #[.int .i64 x.kind, .int .i64 x.n, .string x.name, .slice x.at_.1 x.args.length x.at_.2] 27 (0, 0)) :: bx) ts w1 ⟨m' + 1, st.l, Tm.putAt st.rs c (Tm.news st.m j), st.ss⟩ w' := by
        refine (freshO87 h3 (show m' < 65536 by have := HM.out; omega)).mono ?_
        rintro e w' ⟨rfl, ha⟩
        have := hkk _ l w' ha; rw [hl] at this; exact ⟨rfl, this⟩
      have HFR := hid hfr; have HMM := hid hm'; have hbx := hmj.boxes; have g1 := hbx _ (List.mem_cons_self ..); obtain ⟨b0, b1, b2, _⟩ := rec3b hmj.mbox; clear hfr hmj h3 hl hq hts hkk hm' hbx g1
      go_wp2_with (go_at_call 87; (with_reducible refine HFR.out.mono ?_); rintro e w5 ⟨rfl, h5⟩; have HM5 := hid h5; clear h5)
      obtain ⟨w6, hw6⟩ : ∃ z, z = w5.alloc (.cells #[.int .i64 0, .int .i64 (m' : Int), .string ByteArray.empty, .slice none 0 0] 27) := ⟨_, rfl⟩; rw [← hw6]; have hnew := heap_alloc_new w5 (.cells #[.int .i64 0, .int .i64 (m' : Int), .string ByteArray.empty, .slice none 0 0] 27); rw [← hw6] at hnew; obtain ⟨v0, v1, v2, v3, _⟩ := cells4 hnew; have hm6 := (HM5.out.turned0 (show Turned (fun _ => False) w5 w6 by rw [hw6]; exact (Turned.refl _ _).alloc _)).leaf (x := leaf 0 (m' : Int) ByteArray.empty) (fun p w => leafIn' (i64_lit 0 (by omega)) (by unfold I64; have := HMM.out; have := HM.out; omega) (by unfold maxLen; decide)); obtain ⟨b0, b1, b2, _⟩ := rec3b hm6.mbox; obtain ⟨m0, m1, m2, m3, m4, m5⟩ := cells6 (hm6.boxes _ (List.mem_cons_self ..)); obtain ⟨cj, hcj⟩ : ∃ z, z = c + j := ⟨_, rfl⟩
      have hjr : cj < R := by have := HC.out; omega
      have hw : IntKind.i64.wrap ((c : Int) + (j : Int)) = (cj : Int) := by rw [wrapI (by omega) (by omega)]; omega
      have hms := (hm6.turned0 ((Turned.refl (fun _ => False) w6).drew)).setReg HN.out (i := cj) hjr; have HMS := hid hms; obtain ⟨e0, e1, e2, e3, ⟨r0, r1, r2, r3⟩, f0, f1, f2, f3⟩ := hm6.regAt hjr; have HCJ := hid hcj; clear hms hm6 hnew hw6 hcj; refine region_tail 10 (by kernel_rfl) (by kernel_rfl) ?_; simp only [List.take_succ_cons, List.take_zero, List.drop_succ_cons, List.drop_zero]
      repeat still_step
      try rw [hw]
      repeat still_step
      refine wpStill_nil ?_
      go_wp2_with fail
      go_roundg (gk - 1)
      case measure => have := HG.out; omega
      case rel =>
        refine ⟨j + 1, show _ = _ by have := HG.out; omega, by omega, by go_num, ?_⟩; show MK _ _ _ _ _ _ _ _ _ _ _ _; have h1 := HMS.out; have e1 := HMM.out; have e2 := HCJ.out; subst e1 e2; rw [putAt_news _ _ _ _ (by have := HLS.out.1; have := HC.out; omega)]; exact h1.sub (fun b h => h) (fun x h => List.mem_cons_of_mem _ h)
    · obtain rfl : j = b := by omega
      have dj : decide ((j : Int) < (j : Int)) = false := decide_eq_false (by omega); obtain ⟨b0, b1, b2, _⟩ := rec3b HMJ.out.mbox; have HWR := hid HMJ.out; obtain ⟨cb, hcb⟩ : ∃ z, z = c + j := ⟨_, rfl⟩; have HWC : Hid (IntKind.i64.wrap ((c : Int) + (j : Int)) = (cb : Int) ∧ c ≤ cb ∧ cb ≤ R ∧ c ≤ R ∧ cb - c = j ∧ ¬ R = c) := ⟨by have := HC.out; rw [wrapI (by omega) (by omega)]; omega, by omega, by have := HC.out; omega, by have := HC.out; omega, by omega, by have := HC.out; omega⟩
      have hpart : (List.take j (List.drop c (Tm.putAt st.rs c (Tm.news st.m j)))) = Tm.news st.m j := by
        have := putAt_part st.rs (Tm.news st.m j) c (by rw [Tm.news_length]; have := HLS.out.1; have := HC.out; omega)
        rwa [Tm.news_length] at this
      have HCP : Hid (∀ W, Turned (fun _ => False) wr W → Calls Try.prog 37 #[.string name, .slice (some ⟨gr, c * 4, none⟩) j (R - c)] W fun e w' => ∃ y : LT, e = .returned y.val ∧ y.bare = .mk 2 0 name () (Tm.news st.m j) ∧ Turned (fun _ => False) W w' ∧ MK N bb mb gr gs R S ((w.heap.size + 1, .cells #[.string op, .int .i64 a, .int .i64 (j : Int), .int .i64 (c : Int), .int .i64 n, .string name] 139 (0, 0)) :: (w.heap.size, .cells #[.int .i64 x.kind, .int .i64 x.n, .string x.name, .slice x.at_.1 x.args.length x.at_.2] 27 (0, 0)) :: bx) (y :: ts) w1 ⟨st.m + j, st.l, Tm.putAt st.rs c (Tm.news st.m j), st.ss⟩ w') := fun W T => by
        have := (HWR.out.turned0 T).comp37 HN.out name HS.out (c := c) (b := j) HC.out hR (by rw [hpart]; exact news_args _ _); rw [hpart] at this; exact this
      have HST : Hid (∀ (y : LT) W, y.bare = .mk 2 0 name () (Tm.news st.m j) → MK N bb mb gr gs R S ((w.heap.size + 1, .cells #[.string op, .int .i64 a, .int .i64 (j : Int), .int .i64 (c : Int), .int .i64 n, .string name] 139 (0, 0)) :: (w.heap.size, .cells #[.int .i64 x.kind, .int .i64 x.n, .string x.name, .slice x.at_.1 x.args.length x.at_.2] 27 (0, 0)) :: bx) (y :: ts) w1 ⟨st.m + j, st.l, Tm.putAt st.rs c (Tm.news st.m j), st.ss⟩ W → Calls Try.prog 88 #[.pointer (some ⟨bb, 0, none⟩), .int .i64 x.n, .agg #[.int .i64 y.kind, .int .i64 y.n, .string y.name, .slice y.at_.1 y.args.length y.at_.2]] W fun e w' => e = .returned (.int .i64 E) ∧ MK N bb mb gr gs R S bx ts w1 ⟨st.m + j, l2, Tm.putAt st.rs c (Tm.news st.m j), st.ss⟩ w') := fun y W y2 y3 => by
        obtain ⟨q, O, l, h3, hl, hq, hts, hkk⟩ := MK.call HN.out y3; have := setO88 h3 (hts y (List.mem_cons_self ..)) (slim_newT y2 HB12.out) x.n H64.out; rw [LT.val_eq, hl, y2, ← HE.out, ← HL2.out] at this; refine this.mono ?_
        rintro e w' ⟨rfl, l', hl', ha⟩
        have := hkk _ l' w' ha; rw [hl'] at this; exact ⟨rfl, this.sub (fun b h => List.mem_cons_of_mem _ (List.mem_cons_of_mem _ h)) (fun x h => List.mem_cons_of_mem _ h)⟩
      clear hpart hcb; have HBX := hid (fun W (T : Turned (fun _ => False) wr W) => And.intro (cells4 ((HWR.out.turned0 T).boxes _ (List.mem_cons_of_mem _ (List.mem_cons_self ..)))) (And.intro (cells6 ((HWR.out.turned0 T).boxes _ (List.mem_cons_self ..))) (rec3b (HWR.out.turned0 T).mbox)))
      go_wp2_with fail
      refine wp_region_hsW [63, 64, 65, 66, 67, 68, 69, 70, 71, 72, 73, 74, 75, 76, 77, 78, 79, 80, 81, 82, 83, 84, 6, 7] [20, 21] [1, 1, 1, 1, 1, 1, 0, 0, 0, 0, 0, 0, 0, 0, 0, 0, 0, 0, 0, 0, 1, 2, 2, 2] [83, 84] (fun dd vv => (match dd with | 63 => vv = .pointer (some ⟨mb, 0, none⟩) | 64 => vv = .pointer (some ⟨mb, 0, none⟩) | 65 => vv = .pointer (some ⟨mb, 0, none⟩) | 66 => vv = .pointer (some ⟨bb, 0, none⟩) | 67 => vv = .pointer (some ⟨w.heap.size, 1, none⟩) | 68 => vv = .int .i64 x.n | 69 => vv = .pointer (some ⟨w.heap.size + 1, 5, none⟩) | 70 => vv = .string name | 71 => vv = .pointer (some ⟨mb, 0, none⟩) | 72 => vv = .pointer (some ⟨mb, 0, none⟩) | 73 => vv = .pointer (some ⟨mb, 1, none⟩) | 74 => vv = .slice (some ⟨gr, 0, none⟩) R R | 75 => vv = .pointer (some ⟨w.heap.size + 1, 3, none⟩) | 76 => vv = .int .i64 (c : Int) | 77 => vv = .pointer (some ⟨w.heap.size + 1, 3, none⟩) | 78 => vv = .int .i64 (c : Int) | 79 => vv = .pointer (some ⟨w.heap.size + 1, 2, none⟩) | 80 => vv = .int .i64 (j : Int) | 81 => vv = .int .i64 ((cb : Nat) : Int) | 82 => vv = .slice (some ⟨gr, c * 4, none⟩) j (R - c) | 6 => vv = .bool true | 7 => vv = .int .i64 E | _ => True : Prop)) (CompS (fun y W => MK N bb mb gr gs R S ((w.heap.size + 1, .cells #[.string op, .int .i64 a, .int .i64 (j : Int), .int .i64 (c : Int), .int .i64 n, .string name] 139 (0, 0)) :: (w.heap.size, .cells #[.int .i64 x.kind, .int .i64 x.n, .string x.name, .slice x.at_.1 x.args.length x.at_.2] 27 (0, 0)) :: bx) (y :: ts) w1 ⟨st.m + j, st.l, Tm.putAt st.rs c (Tm.news st.m j), st.ss⟩ W) (.mk 2 0 name () (Tm.news st.m j)) E (fun W => MK N bb mb gr gs R S bx ts w1 ⟨st.m + j, l2, Tm.putAt st.rs c (Tm.news st.m j), st.ss⟩ W) wr) (by kernel_rfl) rfl (by kernel_rfl) (by kernel_rfl) (by kernel_rfl) (by kernel_rfl) (fun w h => h) (fun hs w w' h T => CompS.turned0 (fun y W W' h T => h.turned0 T) (fun W W' h T => h.turned0 T) hs w w' h T) ?hs ?hQ
      case hs =>
        refine ⟨?s0, ?s1, ?s2, ?s3, ?s4, ?s5, ?s6, ?s7, ?s8, ?s9, ?s10, ?s11, ?s12, ?s13, ?s14, ?s15, ?s16, ?s17, ?s18, ?s19, ?s20, ?s21, ?s22, ?s23, trivial⟩
        case s0 =>
          refine fun hs hle => stepG_free [] [0] (by kernel_rfl) rfl ?_
          intro ac W hT hI hO; have hle : hs.length ≤ 1 := hle; have h0 : ac.tmps.getD 0 undef = .pointer (some ⟨mb, 0, none⟩) := hO 0 (by simp); show Brings _ (fun v _ => _ ∧ v = _) _; simp only [execOp, Act.eval, h0]; go_simp
          try exact tq
        case s1 =>
          refine fun hs hle => stepG_free [63] [] (by kernel_rfl) rfl ?_
          intro ac W hT hI hO; have hle : hs.length ≤ 1 := hle; have h63 : ac.tmps.getD 63 undef = _ := hI 63 (by simp); show Brings _ (fun v _ => _ ∧ v = _) _; simp only [execOp, Act.eval, h63]; go_simp
          try exact tq
        case s2 =>
          refine fun hs hle => stepG_free [64] [] (by kernel_rfl) rfl ?_
          intro ac W hT hI hO; have hle : hs.length ≤ 1 := hle; have h64 : ac.tmps.getD 64 undef = _ := hI 64 (by simp); show Brings _ (fun v _ => _ ∧ v = _) _; simp only [execOp, Act.eval, h64]; go_simp
          try exact tq
        case s3 =>
          refine fun hs hle => stepG_free [65] [] (by kernel_rfl) rfl ?_
          intro ac W hT hI hO; have hle : hs.length ≤ 1 := hle; have h65 : ac.tmps.getD 65 undef = _ := hI 65 (by simp); show Brings _ (fun v _ => _ ∧ v = _) _; obtain ⟨⟨k0, k1, k2, k3, _⟩, ⟨m0, m1, m2, m3, m4, m5⟩, b0, b1, b2, _⟩ := HBX.out W (CompS.early hs W (by omega) hT); simp only [execOp, Act.eval, h65]; go_simp
          try exact tq
        case s4 =>
          refine fun hs hle => stepG_free [] [4] (by kernel_rfl) rfl ?_
          intro ac W hT hI hO; have hle : hs.length ≤ 1 := hle; have h4 : ac.tmps.getD 4 undef = .pointer (some ⟨w.heap.size, 0, none⟩) := hO 4 (by simp); show Brings _ (fun v _ => _ ∧ v = _) _; simp only [execOp, Act.eval, h4]; go_simp
          try exact tq
        case s5 =>
          refine fun hs hle => stepG_free [67] [] (by kernel_rfl) rfl ?_
          intro ac W hT hI hO; have hle : hs.length ≤ 1 := hle; have h67 : ac.tmps.getD 67 undef = _ := hI 67 (by simp); show Brings _ (fun v _ => _ ∧ v = _) _; obtain ⟨⟨k0, k1, k2, k3, _⟩, ⟨m0, m1, m2, m3, m4, m5⟩, b0, b1, b2, _⟩ := HBX.out W (CompS.early hs W (by omega) hT); simp only [execOp, Act.eval, h67]; go_simp
          try exact tq
        case s6 =>
          refine fun hs hle => stepG_free [] [5] (by kernel_rfl) rfl ?_
          intro ac W hT hI hO; have hle : hs.length ≤ 0 := hle; have h5 : ac.tmps.getD 5 undef = .pointer (some ⟨w.heap.size + 1, 0, none⟩) := hO 5 (by simp); show Brings _ (fun v _ => _ ∧ v = _) _; simp only [execOp, Act.eval, h5]; go_simp
          try exact tq
        case s7 =>
          refine fun hs hle => stepG_free [69] [] (by kernel_rfl) rfl ?_
          intro ac W hT hI hO; have hle : hs.length ≤ 0 := hle; have h69 : ac.tmps.getD 69 undef = _ := hI 69 (by simp); show Brings _ (fun v _ => _ ∧ v = _) _; obtain ⟨⟨k0, k1, k2, k3, _⟩, ⟨m0, m1, m2, m3, m4, m5⟩, b0, b1, b2, _⟩ := HBX.out W (CompS.early hs W (by omega) hT); simp only [execOp, Act.eval, h69]; go_simp
          try exact tq
        case s8 =>
          refine fun hs hle => stepG_free [] [0] (by kernel_rfl) rfl ?_
          intro ac W hT hI hO; have hle : hs.length ≤ 0 := hle; have h0 : ac.tmps.getD 0 undef = .pointer (some ⟨mb, 0, none⟩) := hO 0 (by simp); show Brings _ (fun v _ => _ ∧ v = _) _; simp only [execOp, Act.eval, h0]; go_simp
          try exact tq
        case s9 =>
          refine fun hs hle => stepG_free [71] [] (by kernel_rfl) rfl ?_
          intro ac W hT hI hO; have hle : hs.length ≤ 0 := hle; have h71 : ac.tmps.getD 71 undef = _ := hI 71 (by simp); show Brings _ (fun v _ => _ ∧ v = _) _; simp only [execOp, Act.eval, h71]; go_simp
          try exact tq
        case s10 =>
          refine fun hs hle => stepG_free [72] [] (by kernel_rfl) rfl ?_
          intro ac W hT hI hO; have hle : hs.length ≤ 0 := hle; have h72 : ac.tmps.getD 72 undef = _ := hI 72 (by simp); show Brings _ (fun v _ => _ ∧ v = _) _; simp only [execOp, Act.eval, h72]; go_simp
          try exact tq
        case s11 =>
          refine fun hs hle => stepG_free [73] [] (by kernel_rfl) rfl ?_
          intro ac W hT hI hO; have hle : hs.length ≤ 0 := hle; have h73 : ac.tmps.getD 73 undef = _ := hI 73 (by simp); show Brings _ (fun v _ => _ ∧ v = _) _; obtain ⟨⟨k0, k1, k2, k3, _⟩, ⟨m0, m1, m2, m3, m4, m5⟩, b0, b1, b2, _⟩ := HBX.out W (CompS.early hs W (by omega) hT); simp only [execOp, Act.eval, h73]; go_simp
          try exact tq
        case s12 =>
          refine fun hs hle => stepG_free [] [5] (by kernel_rfl) rfl ?_
          intro ac W hT hI hO; have hle : hs.length ≤ 0 := hle; have h5 : ac.tmps.getD 5 undef = .pointer (some ⟨w.heap.size + 1, 0, none⟩) := hO 5 (by simp); show Brings _ (fun v _ => _ ∧ v = _) _; simp only [execOp, Act.eval, h5]; go_simp
          try exact tq
        case s13 =>
          refine fun hs hle => stepG_free [75] [] (by kernel_rfl) rfl ?_
          intro ac W hT hI hO; have hle : hs.length ≤ 0 := hle; have h75 : ac.tmps.getD 75 undef = _ := hI 75 (by simp); show Brings _ (fun v _ => _ ∧ v = _) _; obtain ⟨⟨k0, k1, k2, k3, _⟩, ⟨m0, m1, m2, m3, m4, m5⟩, b0, b1, b2, _⟩ := HBX.out W (CompS.early hs W (by omega) hT); simp only [execOp, Act.eval, h75]; go_simp
          try exact tq
        case s14 =>
          refine fun hs hle => stepG_free [] [5] (by kernel_rfl) rfl ?_
          intro ac W hT hI hO; have hle : hs.length ≤ 0 := hle; have h5 : ac.tmps.getD 5 undef = .pointer (some ⟨w.heap.size + 1, 0, none⟩) := hO 5 (by simp); show Brings _ (fun v _ => _ ∧ v = _) _; simp only [execOp, Act.eval, h5]; go_simp
          try exact tq
        case s15 =>
          refine fun hs hle => stepG_free [77] [] (by kernel_rfl) rfl ?_
          intro ac W hT hI hO; have hle : hs.length ≤ 0 := hle; have h77 : ac.tmps.getD 77 undef = _ := hI 77 (by simp); show Brings _ (fun v _ => _ ∧ v = _) _; obtain ⟨⟨k0, k1, k2, k3, _⟩, ⟨m0, m1, m2, m3, m4, m5⟩, b0, b1, b2, _⟩ := HBX.out W (CompS.early hs W (by omega) hT); simp only [execOp, Act.eval, h77]; go_simp
          try exact tq
        case s16 =>
          refine fun hs hle => stepG_free [] [5] (by kernel_rfl) rfl ?_
          intro ac W hT hI hO; have hle : hs.length ≤ 0 := hle; have h5 : ac.tmps.getD 5 undef = .pointer (some ⟨w.heap.size + 1, 0, none⟩) := hO 5 (by simp); show Brings _ (fun v _ => _ ∧ v = _) _; simp only [execOp, Act.eval, h5]; go_simp
          try exact tq
        case s17 =>
          refine fun hs hle => stepG_free [79] [] (by kernel_rfl) rfl ?_
          intro ac W hT hI hO; have hle : hs.length ≤ 0 := hle; have h79 : ac.tmps.getD 79 undef = _ := hI 79 (by simp); show Brings _ (fun v _ => _ ∧ v = _) _; obtain ⟨⟨k0, k1, k2, k3, _⟩, ⟨m0, m1, m2, m3, m4, m5⟩, b0, b1, b2, _⟩ := HBX.out W (CompS.early hs W (by omega) hT); simp only [execOp, Act.eval, h79]; go_simp
          try exact tq
        case s18 =>
          refine fun hs hle => stepG_free [78, 80] [] (by kernel_rfl) rfl ?_
          intro ac W hT hI hO; have hle : hs.length ≤ 0 := hle; have h78 : ac.tmps.getD 78 undef = _ := hI 78 (by simp); have h80 : ac.tmps.getD 80 undef = _ := hI 80 (by simp); show Brings _ (fun v _ => _ ∧ v = _) _; have hw := HWC.out; simp only [execOp, Act.eval, h78, h80]; go_simp
          try exact tq
        case s19 =>
          refine fun hs hle => stepG_free [74, 76, 81] [] (by kernel_rfl) rfl ?_
          intro ac W hT hI hO; have hle : hs.length ≤ 0 := hle; have h74 : ac.tmps.getD 74 undef = _ := hI 74 (by simp); have h76 : ac.tmps.getD 76 undef = _ := hI 76 (by simp); have h81 : ac.tmps.getD 81 undef = _ := hI 81 (by simp); show Brings _ (fun v _ => _ ∧ v = _) _; have hw := HWC.out; simp only [execOp, Act.eval, h74, h76, h81]; go_simp
          try exact tq
        case s20 =>
          refine fun hs hlen => stepG_free [70, 82] [] (by kernel_rfl) rfl ?_
          intro ac W hT hI hO; have h70 : ac.tmps.getD 70 undef = _ := hI 70 (by simp); have h82 : ac.tmps.getD 82 undef = _ := hI 82 (by simp); obtain rfl : hs = [] := List.eq_nil_of_length_eq_zero hlen; replace hT : Turned (fun _ => False) wr W := hT; show Brings Try.prog (fun vv w' => CompS (fun y W => MK N bb mb gr gs R S ((w.heap.size + 1, .cells #[.string op, .int .i64 a, .int .i64 (j : Int), .int .i64 (c : Int), .int .i64 n, .string name] 139 (0, 0)) :: (w.heap.size, .cells #[.int .i64 x.kind, .int .i64 x.n, .string x.name, .slice x.at_.1 x.args.length x.at_.2] 27 (0, 0)) :: bx) (y :: ts) w1 ⟨st.m + j, st.l, Tm.putAt st.rs c (Tm.news st.m j), st.ss⟩ W) (.mk 2 0 name () (Tm.news st.m j)) E (fun W => MK N bb mb gr gs R S bx ts w1 ⟨st.m + j, l2, Tm.putAt st.rs c (Tm.news st.m j), st.ss⟩ W) wr [vv] w') _; simp only [execOp, Act.eval, h70, h82]; go_simp; show Calls Try.prog 37 _ W _
          (with_reducible refine (HCP.out W hT).mono ?_)
          rintro e w' ⟨y, rfl, hb, T', hmk⟩
          exact ⟨_, rfl, hT.trans T', y, LT.val_eq y, hb, hmk⟩
        case s21 =>
          refine fun hs hlen => stepG_free [66, 68, 83] [] (by kernel_rfl) rfl ?_
          intro ac W hT hI hO; have h66 : ac.tmps.getD 66 undef = _ := hI 66 (by simp); have h68 : ac.tmps.getD 68 undef = _ := hI 68 (by simp); have h83 : hs[0]? = some (ac.tmps.getD 83 undef) := hI 83 (by simp); obtain ⟨a1, rfl⟩ := List.length_eq_one_iff.1 hlen
          have e83 : a1 = ac.tmps.getD 83 undef := by simpa using h83
          obtain ⟨hT1, y, y1, y2, y3⟩ := hT; rw [e83] at y1; show Brings Try.prog (fun vv w' => CompS (fun y W => MK N bb mb gr gs R S ((w.heap.size + 1, .cells #[.string op, .int .i64 a, .int .i64 (j : Int), .int .i64 (c : Int), .int .i64 n, .string name] 139 (0, 0)) :: (w.heap.size, .cells #[.int .i64 x.kind, .int .i64 x.n, .string x.name, .slice x.at_.1 x.args.length x.at_.2] 27 (0, 0)) :: bx) (y :: ts) w1 ⟨st.m + j, st.l, Tm.putAt st.rs c (Tm.news st.m j), st.ss⟩ W) (.mk 2 0 name () (Tm.news st.m j)) E (fun W => MK N bb mb gr gs R S bx ts w1 ⟨st.m + j, l2, Tm.putAt st.rs c (Tm.news st.m j), st.ss⟩ W) wr [a1, vv] w') _; simp only [execOp, Act.eval, h66, h68, y1]; go_simp; show Calls Try.prog 88 _ W _
          (with_reducible refine (HST.out y W y2 y3).mono ?_)
          rintro e w' ⟨rfl, hq⟩
          exact ⟨_, rfl, rfl, hq⟩
        case s22 =>
          refine fun hs hle => stepG_free [] [] (by kernel_rfl) rfl ?_
          intro ac W hT hI hO; have hle : hs.length ≤ 2 := hle; show Brings _ (fun v _ => _ ∧ v = _) _; simp only [execOp, Act.eval]; go_simp
          try exact tq
        case s23 =>
          refine fun hs hle => stepG_free [84] [] (by kernel_rfl) rfl ?_
          intro ac W hT hI hO; have hle : hs.length ≤ 2 := hle; have h84 : hs[1]? = some (ac.tmps.getD 84 undef) := hI 84 (by simp); have e84 := CompS.val hs W hT h84; show Brings _ (fun v _ => _ ∧ v = _) _; simp only [execOp, Act.eval, e84]; go_simp
          try exact tq
      case hQ =>
        intro hs vs w5 hlen hR hV; have q6 : vs 6 = .bool true := hV 6 (by simp); have q7 : vs 7 = .int .i64 E := hV 7 (by simp); simp only [List.foldl_cons, List.foldl_nil, List.setIfInBounds_toArray, List.set_cons_zero, List.set_cons_succ, q6, q7]; obtain ⟨a1, a2, rfl⟩ := list2' hlen; have HQ5 := hid hR.2; clear hlen hR hV q6 q7
        go_wp2_with fail
        go_ret2
        rw [HCM.out]; have h5 := HQ5.out; rw [HL2.out] at h5
        by_cases hE : E = 0
        · subst hE
          rw [if_pos rfl] at h5 ⊢; exact ⟨rfl, h5⟩
        · rw [if_neg hE] at h5 ⊢
          exact ⟨true, ⟨st.m + j, st.l, Tm.putAt st.rs c (Tm.news st.m j), st.ss⟩, rfl, fun _ => hE, rfl, ⟨[], rfl⟩, h5⟩
end
end Go.Proofs.Ytoihjobdfjajfaa
namespace Go.Proofs.Ytoihjobdfjajfaa
open Go.RowKit Go.Maps
def aggM (u : LT) : Value := .agg #[.int .i64 u.kind, .int .i64 u.n, .string u.name, .slice u.at_.1 u.args.length u.at_.2]
section
variable {N bb mb gr gs R S : Nat} {bx bx' : List (Nat × Obj)} {ts ts' : List LT} {w1 W W' w0 : World} {st st' : Tm.MS} {x t : LT}
theorem MK.setBox {B : Nat} {c0 c1 c2 c3 a b c d : Value} (h : MK N bb mb gr gs R S ((B, .cells #[c0, c1, c2, c3] 27 (0, 0)) :: bx) ts w1 st W) (hB : ∀ e ∈ bx, e.1 ≠ B) (hN : w1.heap.size ≤ B) :
    MK N bb mb gr gs R S ((B, .cells #[a, b, c, d] 27 (0, 0)) :: bx) ts w1 st ((((W.setCell ⟨B, 0, none⟩ a).setCell ⟨B, 1, none⟩ b).setCell ⟨B, 2, none⟩ c).setCell ⟨B, 3, none⟩ d) := by
  obtain ⟨q, l, O, rs, ss, h1, h2, h3, h4, h5, h6, ⟨r1, r2, r3⟩, ⟨s1, s2, s3⟩, h9, h10, h11, h12⟩ := h
  have Tq : Turned (fun k => k = B) W ((((W.setCell ⟨B, 0, none⟩ a).setCell ⟨B, 1, none⟩ b).setCell ⟨B, 2, none⟩ c).setCell ⟨B, 3, none⟩ d) :=
    ((((Turned.refl (fun k => k = B) W).setCell (p := ⟨B, 0, none⟩) (.inr rfl) _).setCell (p := ⟨B, 1, none⟩) (.inr rfl) _).setCell (p := ⟨B, 2, none⟩) (.inr rfl) _).setCell (p := ⟨B, 3, none⟩) (.inr rfl) _
  obtain ⟨k1, k2, k3, k4, k5, k6⟩ := h11 _ (List.mem_cons_self ..); simp only [] at k1 k2 k3 k4 k5 k6
  have up : ∀ {y : LT}, y.In q W → y.In q _ := fun {y} hy => LT.In.turned Tq (fun k _ hk e => k6 (e ▸ hk)) (fun _ _ q => q) y hy
  refine ⟨q, l, O, rs, ss, h1, h2, h3.turned Tq (fun k hk e => ⟨fun c => k2 (e ▸ c), fun c => k6 (e ▸ c)⟩), h4, h5.step Tq (fun k hk e => by omega), (Tq.block mb (Array.getElem?_eq_some_iff.1 h6).1 (fun e => k3 e.symm)).trans h6, ⟨r1.turned Tq (fun k hk e => by simp [Value.ownBlock] at hk; exact k4 (e.symm.trans hk.symm)), r2, fun y hy => up (r3 y hy)⟩, ⟨s1.turned Tq (fun k hk e => by simp [Value.ownBlock] at hk; exact k5 (e.symm.trans hk.symm)), s2, fun y hy => up (s3 y hy)⟩, h9, h10, fun e he => ?_, fun y hy => up (h12 y hy)⟩
  rcases List.mem_cons.1 he with rfl | he
  · exact ⟨set4 k1, k2, k3, k4, k5, k6⟩
  · obtain ⟨j1, j2⟩ := h11 e (List.mem_cons_of_mem _ he)
    exact ⟨(Tq.block _ (Array.getElem?_eq_some_iff.1 j1).1 (hB e he)).trans j1, j2⟩
theorem MK.wsize (h : MK N bb mb gr gs R S bx ts w1 st W) : w1.heap.size ≤ W.heap.size := h.old.size
theorem MK.walk (hN : N = w1.heap.size) (h : MK N bb mb gr gs R S bx ts w1 st W) (ht : t ∈ ts) (hg : ∀ z ∈ t.bare.flat, goodOneB z = true) :
    Calls Try.prog 90 #[.pointer (some ⟨bb, 0, none⟩), .agg #[.int .i64 t.kind, .int .i64 t.n, .string t.name, .slice t.at_.1 t.args.length t.at_.2]] W fun e w' => ∃ u : LT, e = .returned (aggM u) ∧ u.bare = Tm.walkT st.l t.bare ∧ Turned (fun _ => False) W w' ∧ MK N bb mb gr gs R S bx (u :: ts) w1 st w' := by
  have hk := h; obtain ⟨q, l, O, rs, ss, h1, h2, h3, h4, h5, h6, ⟨r1, r2, r3⟩, ⟨s1, s2, s3⟩, h9, h10, h11, h12⟩ := h; have := walkO90 h3 (h12 t ht) hg; rw [LT.val_eq, h2] at this; refine this.mono ?_
  rintro e w' ⟨u, rfl, g1, g2, T⟩
  refine ⟨u, by rw [LT.val_eq]; rfl, g2, T, ?_⟩; have hk' := hk.turned0 T; exact ⟨q, l, O, rs, ss, h1, h2, h3.turned0 T, h4, h5.trans T, (T.block _ (Array.getElem?_eq_some_iff.1 h6).1 (fun f => f)).trans h6, ⟨r1.turned0 T, r2, fun x hx => (r3 x hx).turned0 T⟩, ⟨s1.turned0 T, s2, fun x hx => (s3 x hx).turned0 T⟩, h9, h10, fun b hb => ⟨(T.block _ (Array.getElem?_eq_some_iff.1 (h11 b hb).1).1 (fun f => f)).trans (h11 b hb).1, (h11 b hb).2⟩, fun x hx => (List.mem_cons.1 hx).elim (fun e => e ▸ g1) (fun hx => (h12 x hx).turned0 T)⟩
structure WkR (mk : List (Nat × Obj) → List LT → World → Prop) (w0 : World) (Q : Tm Unit) (hs : Hist) (W : World) : Prop where
  t : Turned (fun _ => False) w0 W
  it : ∃ (bs : List (Nat × Obj)) (us : List LT), mk bs us W ∧ (∀ v, (12, v) ∈ hs → ∃ u ∈ us, v = aggM u ∧ u.bare = Q) ∧ ((∀ v, (13, v) ∉ hs) → bs = []) ∧ ∀ v, (13, v) ∈ hs → ∃ B c0 c1 c2 c3, v = ptr B ∧ w0.heap.size ≤ B ∧ bs = [(B, .cells #[c0, c1, c2, c3] 27 (0, 0))] ∧ ∀ q, (14, q) ∈ hs → (12, .agg #[c0, c1, c2, c3]) ∈ hs
def MKx (N bb mb gr gs R S : Nat) (bx : List (Nat × Obj)) (ts : List LT) (w1 : World) (st : Tm.MS) (bs : List (Nat × Obj)) (us : List LT) (W : World) : Prop := MK N bb mb gr gs R S (bs ++ bx) (us ++ ts) w1 st W
variable {Q : Tm Unit} {hs : Hist}
theorem WkR.start (h : MK N bb mb gr gs R S bx ts w1 st w0) (T : Turned (fun _ => False) w0 W) : WkR (MKx N bb mb gr gs R S bx ts w1 st) w0 Q [] W :=
  ⟨T, [], [], h.turned0 T, fun v h => (List.not_mem_nil h).elim, fun _ => rfl, fun v h => (List.not_mem_nil h).elim⟩
theorem WkR.turned0 (h : WkR (MKx N bb mb gr gs R S bx ts w1 st) w0 Q hs W) (T : Turned (fun _ => False) W W') : WkR (MKx N bb mb gr gs R S bx ts w1 st) w0 Q hs W' := by
  obtain ⟨t, bs, us, h1, h2⟩ := h; exact ⟨t.trans T, bs, us, MK.turned0 h1 T, h2⟩
theorem WkR.called (hN : N = w1.heap.size) (h : WkR (MKx N bb mb gr gs R S bx ts w1 st) w0 (Tm.walkT st.l t.bare) hs W) (ht : t ∈ ts) (hg : ∀ z ∈ t.bare.flat, goodOneB z = true) (hno : ∀ v, (12, v) ∉ hs) (hst : ∀ q, (14, q) ∉ hs) :
    Calls Try.prog 90 #[.pointer (some ⟨bb, 0, none⟩), .agg #[.int .i64 t.kind, .int .i64 t.n, .string t.name, .slice t.at_.1 t.args.length t.at_.2]] W fun e w' => ∃ v, e = .returned v ∧ WkR (MKx N bb mb gr gs R S bx ts w1 st) w0 (Tm.walkT st.l t.bare) (hs ++ [(12, v)]) w' := by
  obtain ⟨T, bs, us, h1, h2, h3, h4⟩ := h; refine (MK.walk hN (show MK _ _ _ _ _ _ _ _ _ _ _ _ from h1) (List.mem_append_right _ ht) hg).mono ?_
  rintro e w' ⟨u, rfl, g1, T', g2⟩
  refine ⟨_, rfl, T.trans T', bs, u :: us, g2, fun v hv => ?_, fun hn => h3 (fun v hv => hn v (List.mem_append_left _ hv)), fun v hv => ?_⟩
  · rcases mem_snoc hv with hv | ⟨_, e⟩
    · exact absurd hv (hno v)
    · exact ⟨u, List.mem_cons_self .., e, g1⟩
  · rcases mem_snoc hv with hv | ⟨e, _⟩
    · obtain ⟨B, c0, c1, c2, c3, k1, k2, k3, k4⟩ := h4 v hv
      refine ⟨B, c0, c1, c2, c3, k1, k2, k3, fun q hq => ?_⟩
      rcases mem_snoc hq with hq | ⟨e, _⟩
      · exact absurd hq (hst q)
      · cases e
    · cases e
theorem WkR.laid {c0 c1 c2 c3 : Value} (h : WkR (MKx N bb mb gr gs R S bx ts w1 st) w0 Q hs W) (hno : ∀ v, (13, v) ∉ hs) (hst : ∀ q, (14, q) ∉ hs) : WkR (MKx N bb mb gr gs R S bx ts w1 st) w0 Q (hs ++ [(13, ptr W.heap.size)]) (W.alloc (.cells #[c0, c1, c2, c3] 27)) := by
  obtain ⟨T, bs, us, h1, h2, h3, h4⟩ := h; obtain rfl := h3 hno; refine ⟨T.trans ((Turned.refl _ W).alloc _), [(W.heap.size, .cells #[c0, c1, c2, c3] 27 (0, 0))], us, MK.box h1 _, fun v hv => ?_, fun hn => absurd (List.mem_append_right _ (List.mem_singleton.2 rfl)) (hn (ptr W.heap.size)), fun v hv => ?_⟩
  · rcases mem_snoc hv with hv | ⟨e, _⟩
    · exact h2 v hv
    · cases e
  · rcases mem_snoc hv with hv | ⟨_, e⟩
    · exact absurd hv (hno v)
    · refine ⟨W.heap.size, c0, c1, c2, c3, e, T.size, rfl, fun q hq => ?_⟩
      rcases mem_snoc hq with hq | ⟨e, _⟩
      · exact absurd hq (hst q)
      · cases e
theorem WkR.cell {v : Value} (h : WkR (MKx N bb mb gr gs R S bx ts w1 st) w0 Q hs W) (h9 : (13, v) ∈ hs) : ∃ B c0 c1 c2 c3, v = .pointer (some ⟨B, 0, none⟩) ∧ W.heap[B]? = some (.cells #[c0, c1, c2, c3] 27 (0, 0)) := by
  obtain ⟨T, bs, us, h1, h2, h3, h4⟩ := h; obtain ⟨B, c0, c1, c2, c3, k1, k2, rfl, k4⟩ := h4 v h9; exact ⟨B, c0, c1, c2, c3, k1, MK.boxes h1 _ (List.mem_cons_self ..)⟩
theorem WkR.val {v : Value} (h : WkR (MKx N bb mb gr gs R S bx ts w1 st) w0 Q hs W) (h9 : (12, v) ∈ hs) : ∃ u : LT, v = .agg #[.int .i64 u.kind, .int .i64 u.n, .string u.name, .slice u.at_.1 u.args.length u.at_.2] := by
  obtain ⟨T, bs, us, h1, h2, h3, h4⟩ := h; obtain ⟨u, _, e, _⟩ := h2 v h9; exact ⟨u, e⟩
theorem WkR.stored {B : Nat} {u : LT} {q : Value} (h : WkR (MKx N bb mb gr gs R S bx ts w1 st) w0 Q hs W) (hw0 : w1.heap.size ≤ w0.heap.size) (hbx : ∀ e ∈ bx, e.1 < w0.heap.size) (h13 : (13, ptr B) ∈ hs) (h12 : (12, .agg #[.int .i64 u.kind, .int .i64 u.n, .string u.name, .slice u.at_.1 u.args.length u.at_.2]) ∈ hs) :
    WkR (MKx N bb mb gr gs R S bx ts w1 st) w0 Q (hs ++ [(14, q)]) ((((W.setCell ⟨B, 0, none⟩ (.int .i64 u.kind)).setCell ⟨B, 1, none⟩ (.int .i64 u.n)).setCell ⟨B, 2, none⟩ (.string u.name)).setCell ⟨B, 3, none⟩ (.slice u.at_.1 u.args.length u.at_.2)) := by
  obtain ⟨T, bs, us, h1, h2, h3, h4⟩ := h; obtain ⟨B', c0, c1, c2, c3, k1, k2, rfl, k4⟩ := h4 _ h13; obtain rfl := ptr_inj k1; have Ts := turned_store4 W B (.int .i64 u.kind) (.int .i64 u.n) (.string u.name) (.slice u.at_.1 u.args.length u.at_.2); have hs1 := MK.setBox (a := .int .i64 u.kind) (b := .int .i64 u.n) (c := .string u.name) (d := .slice u.at_.1 u.args.length u.at_.2) (show MK N bb mb gr gs R S ((B, .cells #[c0, c1, c2, c3] 27 (0, 0)) :: bx) (us ++ ts) w1 st W from h1) (fun e he => by have := hbx e he; omega) (by omega); refine ⟨T.step Ts (fun i hi e => by omega), [(B, .cells #[.int .i64 u.kind, .int .i64 u.n, .string u.name, .slice u.at_.1 u.args.length u.at_.2] 27 (0, 0))], us, hs1, fun v hv => ?_, fun hn => absurd (List.mem_append_left _ h13) (hn _), fun v hv => ?_⟩
  · rcases mem_snoc hv with hv | ⟨e, _⟩
    · exact h2 v hv
    · cases e
  · rcases mem_snoc hv with hv | ⟨e, _⟩
    · obtain ⟨B2, _, _, _, _, e1, _, e2, _⟩ := h4 _ hv
      have e3 : B = B2 := by injection e2 with e2; injection e2
      exact ⟨B, _, _, _, _, by rw [e1, e3], k2, rfl, fun q _ => List.mem_append_left _ h12⟩
    · cases e
theorem WkR.done {v : Value} (h : WkR (MKx N bb mb gr gs R S bx ts w1 st) w0 Q hs W) (hall : ∀ i ∈ [12, 13, 14], ∃ v, (i, v) ∈ hs) (h13 : (13, v) ∈ hs) :
    ∃ B, ∃ u : LT, v = .pointer (some ⟨B, 0, none⟩) ∧ u.bare = Q ∧ MK N bb mb gr gs R S ((B, .cells #[.int .i64 u.kind, .int .i64 u.n, .string u.name, .slice u.at_.1 u.args.length u.at_.2] 27 (0, 0)) :: bx) (u :: ts) w1 st W := by
  obtain ⟨T, bs, us, h1, h2, h3, h4⟩ := h; obtain ⟨B, c0, c1, c2, c3, k1, k2, rfl, k4⟩ := h4 _ h13; obtain ⟨q, hq⟩ := hall 14 (by simp); obtain ⟨u, hu, e, hb⟩ := h2 _ (k4 q hq)
  have e1 : c0 = .int .i64 u.kind ∧ c1 = .int .i64 u.n ∧ c2 = .string u.name ∧ c3 = .slice u.at_.1 u.args.length u.at_.2 := by
    unfold aggM at e; simpa using e
  obtain ⟨rfl, rfl, rfl, rfl⟩ := e1; refine ⟨B, u, k1, hb, MK.sub h1 (fun b h => h) (fun x hx => ?_)⟩
  rcases List.mem_cons.1 hx with rfl | hx
  · exact List.mem_append_left _ hu
  · exact List.mem_append_right _ hx
end
end Go.Proofs.Ytoihjobdfjajfaa
namespace Go.Proofs.Ytoihjobdfjajfaa
open Go.RowKit Go.Maps
structure BoxR (g : Nat) (ty : TypeId) (bs ns : List Value) (ops : List (Nat × Nat)) (w0 : World) (hs : Hist) (W : World) : Prop where
  t : Turned (fun k => k = g) w0 W
  box : ∃ cs : List Value, cs.length = bs.length ∧ W.heap[g]? = some (.cells cs.toArray ty (0, 0)) ∧ (∀ c, (∀ j, (j, c) ∈ ops → ∀ v, (j, v) ∉ hs) → cs[c]? = bs[c]?) ∧ ∀ j c v, (j, c) ∈ ops → (j, v) ∈ hs → cs[c]? = ns[c]?
def opsOk (ops : List (Nat × Nat)) : Bool := ops.all fun a => ops.all fun b => (a.1 == b.1) == (a.2 == b.2)
section
variable {g : Nat} {ty : TypeId} {bs ns : List Value} {ops : List (Nat × Nat)} {w0 W W' : World} {hs : Hist}
theorem opsOk.iff (h : opsOk ops = true) {a b : Nat × Nat} (ha : a ∈ ops) (hb : b ∈ ops) : a.1 = b.1 ↔ a.2 = b.2 := by
  unfold opsOk at h; rw [List.all_eq_true] at h; have h1 := h a ha; rw [List.all_eq_true] at h1; have h2 := h1 b hb; simp only [beq_iff_eq] at h2; constructor
  · intro e
    have : (a.1 == b.1) = true := by simp [e]
    rw [this] at h2; simpa using h2.symm
  · intro e
    have : (a.2 == b.2) = true := by simp [e]
    rw [this] at h2; simpa using h2
theorem BoxR.start (h : w0.heap[g]? = some (.cells bs.toArray ty (0, 0))) (T : Turned (fun _ => False) w0 W) : BoxR g ty bs ns ops w0 [] W :=
  ⟨T.mono (fun _ _ f => f.elim), bs, rfl, (T.block g (Array.getElem?_eq_some_iff.1 h).1 (fun f => f)).trans h, fun _ _ => rfl, fun j c v _ hm => (List.not_mem_nil hm).elim⟩
theorem BoxR.turned0 (h : BoxR g ty bs ns ops w0 hs W) (T : Turned (fun _ => False) W W') : BoxR g ty bs ns ops w0 hs W' := by
  obtain ⟨cs, h1, h2, h3, h4⟩ := h.box; exact ⟨h.t.trans (T.mono (fun _ _ f => f.elim)), cs, h1, (T.block g (Array.getElem?_eq_some_iff.1 h2).1 (fun f => f)).trans h2, h3, h4⟩
theorem BoxR.store (h : BoxR g ty bs ns ops w0 hs W) (hok : opsOk ops = true) {j c : Nat} {x v : Value} (hj : (j, c) ∈ ops) (hc : c < bs.length) (hv : ns[c]? = some v) : BoxR g ty bs ns ops w0 (hs ++ [(j, x)]) (W.setCell ⟨g, c, none⟩ v) := by
  obtain ⟨cs, h1, h2, h3, h4⟩ := h.box; have T : Turned (fun k => k = g) W (W.setCell ⟨g, c, none⟩ v) := (Turned.refl (fun k => k = g) W).setCell (p := ⟨g, c, none⟩) (.inr rfl) v; have hset := heap_setCell_same W g c cs.toArray ty v h2; refine ⟨h.t.step T (fun i hi e => e), cs.set c v, by rw [List.length_set]; exact h1, by simpa using hset, fun c' hn => ?_, fun j' c' v' hm hq => ?_⟩
  · have hne : c ≠ c' := fun e => hn j (e ▸ hj) x (List.mem_append_right _ (List.mem_singleton.2 rfl))
    rw [List.getElem?_set_ne hne]; exact h3 c' (fun j' hm v' hq => hn j' hm v' (List.mem_append_left _ hq))
  · by_cases he : c = c'
    · subst he
      rw [List.getElem?_set_self (by omega), hv]
    · rw [List.getElem?_set_ne he]
      rcases mem_snoc hq with hq | ⟨e, _⟩
      · exact h4 j' c' v' hm hq
      · exact absurd ((opsOk.iff hok hm hj).1 e).symm he
theorem BoxR.at (h : BoxR g ty bs ns ops w0 hs W) {c : Nat} (hc : c < bs.length) : (∃ v, W.cell? ⟨g, c, none⟩ = some v) ∧ W.frozen? ⟨g, c, none⟩ = false := by
  obtain ⟨cs, h1, h2, h3, h4⟩ := h.box; refine ⟨⟨cs[c]'(by omega), ?_⟩, frozen_of_row W g c _ ty h2⟩; rw [cell_of_row W g c _ ty (0, 0) h2]; simp [h1, hc]
theorem BoxR.old (h : BoxR g ty bs ns ops w0 hs W) {c : Nat} {v0 : Value} (hb : bs[c]? = some v0) (hn : ∀ j, (j, c) ∈ ops → ∀ v, (j, v) ∉ hs) : W.cell? ⟨g, c, none⟩ = some v0 := by
  obtain ⟨cs, h1, h2, h3, h4⟩ := h.box; rw [cell_of_row W g c _ ty (0, 0) h2]; simp only [List.getElem?_toArray]; rw [h3 c hn, hb]
theorem BoxR.done (h : BoxR g ty bs ns ops w0 hs W) (hl : ns.length = bs.length) (hall : ∀ a ∈ ops, ∃ v, (a.1, v) ∈ hs) (hsame : ∀ c, c < bs.length → c ∉ ops.map (·.2) → ns[c]? = bs[c]?) : W.heap[g]? = some (.cells ns.toArray ty (0, 0)) := by
  obtain ⟨cs, h1, h2, h3, h4⟩ := h.box
  have : cs = ns := by
    refine List.ext_getElem? (fun c => ?_)
    by_cases hc : c < bs.length
    · by_cases hm : c ∈ ops.map (·.2)
      · obtain ⟨⟨j, c'⟩, ha, rfl⟩ := List.mem_map.1 hm
        obtain ⟨v, hv⟩ := hall _ ha; exact h4 j c' v ha hv
      · rw [hsame c hc hm]
        refine h3 c (fun j hj v hv => hm (List.mem_map.2 ⟨_, hj, rfl⟩))
    · rw [List.getElem?_eq_none (by omega), List.getElem?_eq_none (by omega)]
  rw [this] at h2; exact h2
end
end Go.Proofs.Ytoihjobdfjajfaa
namespace Go.Proofs.Ytoihjobdfjajfaa
open Go.RowKit Go.Maps
open Tm (Stp sVar sVal sInt sAtom sComp)
def hadF (had : List Int) : Int → Option Value := fun i => if i ∈ had then some (.bool true) else none
theorem hadF_nil : hadF [] = fun _ => none := by funext i; unfold hadF; simp
theorem hadF_put (had : List Int) (b : Int) : upd (hadF had) b (.bool true) = hadF (had ++ [b]) := by
  funext i
  unfold upd hadF
  by_cases h : i = b
  · rw [if_pos h, if_pos (by rw [h]; simp)]
  · rw [if_neg h]
    by_cases hm : i ∈ had
    · rw [if_pos hm, if_pos (List.mem_append_left _ hm)]
    · rw [if_neg hm, if_neg (by simp [hm, h])]
theorem hadF_same {had : List Int} {b : Int} (h : b ∈ had) : upd (hadF had) b (.bool true) = hadF had := by
  funext i
  unfold upd hadF
  by_cases e : i = b
  · rw [if_pos e, e, if_pos h]
  · rw [if_neg e]
theorem hadF_get (had : List Int) (b : Int) : ((hadF had b).getD (.bool false)) = .bool (decide (b ∈ had)) := by
  unfold hadF
  by_cases h : b ∈ had
  · rw [if_pos h, decide_eq_true h]; rfl
  · rw [if_neg h, decide_eq_false h]; rfl
structure Chk (kb mb : Nat) (k : Int) (had : List Int) (w : World) : Prop where
  b : w.heap[kb]? = some (.cells #[.int .i64 k, .map (some mb)] 178 (0, 0))
  m : IMap Try.prog 3 w mb had.length (hadF had)
  ne : kb ≠ mb
  few : had.length ≤ 60000
theorem Chk.turned0 {kb mb : Nat} {k : Int} {had : List Int} {w w' : World} (h : Chk kb mb k had w) (T : Turned (fun _ => False) w w') : Chk kb mb k had w' :=
  ⟨(T.block _ (Array.getElem?_eq_some_iff.1 h.b).1 (fun f => f)).trans h.b, h.m.turned T (fun f => f), h.ne, h.few⟩
theorem Chk.lt {kb mb : Nat} {k : Int} {had : List Int} {w : World} (h : Chk kb mb k had w) : kb < w.heap.size ∧ mb < w.heap.size := ⟨(Array.getElem?_eq_some_iff.1 h.b).1, h.m.lt⟩
def stEqB (a b : Stp) : Bool := decide (a.op = b.op) && (decide (a.a = b.a) && (decide (a.b = b.b) && (decide (a.c = b.c) && (decide (a.n = b.n) && decide (a.name = b.name)))))
end Go.Proofs.Ytoihjobdfjajfaa
namespace Go.Proofs.Ytoihjobdfjajfaa
open Lib (hid)
open Go.RowKit Go.Maps
open Tm (Stp sVar sVal sInt sAtom sComp)
theorem op_Var_Var : (sVar.toList == [118, 97, 114]) = true := by rw [ByteArray.toList_eq]; rfl
theorem op_Var_Val : (sVar.toList == [118, 97, 108]) = false := by rw [ByteArray.toList_eq]; rfl
theorem op_Var_Int : (sVar.toList == [105, 110, 116]) = false := by rw [ByteArray.toList_eq]; rfl
theorem op_Var_Atom : (sVar.toList == [97, 116, 111, 109]) = false := by rw [ByteArray.toList_eq]; rfl
theorem op_Var_Comp : (sVar.toList == [99, 111, 109, 112]) = false := by rw [ByteArray.toList_eq]; rfl
theorem op_Val_Var : (sVal.toList == [118, 97, 114]) = false := by rw [ByteArray.toList_eq]; rfl
theorem op_Val_Val : (sVal.toList == [118, 97, 108]) = true := by rw [ByteArray.toList_eq]; rfl
theorem op_Val_Int : (sVal.toList == [105, 110, 116]) = false := by rw [ByteArray.toList_eq]; rfl
theorem op_Val_Atom : (sVal.toList == [97, 116, 111, 109]) = false := by rw [ByteArray.toList_eq]; rfl
theorem op_Val_Comp : (sVal.toList == [99, 111, 109, 112]) = false := by rw [ByteArray.toList_eq]; rfl
theorem op_Int_Var : (sInt.toList == [118, 97, 114]) = false := by rw [ByteArray.toList_eq]; rfl
theorem op_Int_Val : (sInt.toList == [118, 97, 108]) = false := by rw [ByteArray.toList_eq]; rfl
theorem op_Int_Int : (sInt.toList == [105, 110, 116]) = true := by rw [ByteArray.toList_eq]; rfl
theorem op_Int_Atom : (sInt.toList == [97, 116, 111, 109]) = false := by rw [ByteArray.toList_eq]; rfl
theorem op_Int_Comp : (sInt.toList == [99, 111, 109, 112]) = false := by rw [ByteArray.toList_eq]; rfl
theorem op_Atom_Var : (sAtom.toList == [118, 97, 114]) = false := by rw [ByteArray.toList_eq]; rfl
theorem op_Atom_Val : (sAtom.toList == [118, 97, 108]) = false := by rw [ByteArray.toList_eq]; rfl
theorem op_Atom_Int : (sAtom.toList == [105, 110, 116]) = false := by rw [ByteArray.toList_eq]; rfl
theorem op_Atom_Atom : (sAtom.toList == [97, 116, 111, 109]) = true := by rw [ByteArray.toList_eq]; rfl
theorem op_Atom_Comp : (sAtom.toList == [99, 111, 109, 112]) = false := by rw [ByteArray.toList_eq]; rfl
theorem op_Comp_Var : (sComp.toList == [118, 97, 114]) = false := by rw [ByteArray.toList_eq]; rfl
theorem op_Comp_Val : (sComp.toList == [118, 97, 108]) = false := by rw [ByteArray.toList_eq]; rfl
theorem op_Comp_Int : (sComp.toList == [105, 110, 116]) = false := by rw [ByteArray.toList_eq]; rfl
theorem op_Comp_Atom : (sComp.toList == [97, 116, 111, 109]) = false := by rw [ByteArray.toList_eq]; rfl
theorem op_Comp_Comp : (sComp.toList == [99, 111, 109, 112]) = true := by rw [ByteArray.toList_eq]; rfl
theorem empty_nil : (ByteArray.empty.toList = []) = True := by simp [(bytes_nil ByteArray.empty).2 rfl]
theorem stEqB_iff {a b : Stp} : stEqB a b = true ↔ a.op = b.op ∧ a.a = b.a ∧ a.b = b.b ∧ a.c = b.c ∧ a.n = b.n ∧ a.name = b.name := by
  unfold stEqB; simp only [Bool.and_eq_true, decide_eq_true_eq]
theorem slim_leaf (k n : Int) (s : ByteArray) : slim (leaf k n s) := by
  intro x hx; rw [show (leaf k n s).flat = [leaf k n s] from rfl, List.mem_singleton] at hx; subst hx; exact Nat.zero_le _
theorem goodAtom (s : ByteArray) (hs : s.size ≤ maxLen) (w : World) : Calls Try.prog 38 #[.agg #[.int .i64 2, .int .i64 0, .string s, .slice none 0 0]] w fun e w' => e = .returned (.bool (goodNameB s)) ∧ Turned (fun _ => False) w w' := by
  have h := good38 (p := fun _ => True) (t := leaf 2 0 s) (w := w) (leafIn' (i64_lit _ (by omega)) (i64_lit _ (by omega)) hs) (slim_leaf _ _ _)
  have hg : goodB (leaf 2 0 s) = goodNameB s := by
    unfold goodB; rw [show (leaf 2 0 s).size = 1 from rfl, show (leaf 2 0 s).depth = 1 from rfl, show (leaf 2 0 s).flat = [leaf 2 0 s] from rfl]; simp only [List.all_cons, List.all_nil, Bool.and_true]; rw [goodOneB_2 (leaf 2 0 s) rfl]; show (decide (1 ≤ 2000) && (decide (1 ≤ 64) && (decide ((0 : Int) = 0) && (goodNameB s && decide (0 ≤ 8))))) = goodNameB s
    cases goodNameB s <;> rfl
  rw [hg] at h; exact h
theorem atomOnly (s : ByteArray) (hs : s.size ≤ maxLen) (w : World) : Calls Try.prog 63 #[.string s] w fun e w' => e = .returned (.agg #[.int .i64 2, .int .i64 0, .string s, .slice none 0 0]) ∧ Turned (fun _ => False) w w' :=
  (atomV s hs w).mono fun e w' ⟨h1, _, h3⟩ => ⟨h1, h3⟩
set_option maxRecDepth 100000 in
set_option maxHeartbeats 6400000 in
theorem one_int {kb : Nat} {ar sl rg i : Int} {lv : Value} {s : Stp} {w : World} (hs : stOk s) (hop : s.op = sInt) :
    Calls Try.prog 149 #[.pointer (some ⟨kb, 0, none⟩), .agg #[.int .i64 ar, .int .i64 sl, .int .i64 rg, lv], .int .i64 i, .agg #[.string s.op, .int .i64 s.a, .int .i64 s.b, .int .i64 s.c, .int .i64 s.n, .string s.name]] w fun e w' => e = .returned (.bool (stEqB s ⟨sInt, i, 0, 0, s.n, ByteArray.empty⟩ && goodNameB s.name)) ∧ Turned (fun _ => False) w w' := by
  have hnm := hs.2.2.2.2.2; have o0 := op_Int_Var; have o1 := op_Int_Val; have o2 := op_Int_Int; have o3 := op_Int_Atom; have o4 := op_Int_Comp; have en := empty_nil
  cases hq : stEqB s ⟨sInt, i, 0, 0, s.n, ByteArray.empty⟩ with
  | true =>
    obtain ⟨_, h1, h2, h3, h4, h5⟩ := stEqB_iff.1 hq; obtain ⟨op, a, b, c, n, name⟩ := s; simp only at hop h1 h2 h3 h4 h5 hnm; subst hop h1 h2 h3 h5; clear hq hs; obtain ⟨B, hB⟩ : ∃ B, B = goodNameB ByteArray.empty := ⟨_, rfl⟩; have HB := hid hB; clear hB; go_enter Try.func149, Try.ntmps149
    go_wp2_with (first
      | (go_at_call 63; (with_reducible refine (atomOnly ByteArray.empty hnm _).mono ?_); rintro e W1 ⟨rfl, T1⟩)
      | (go_at_call 38; (with_reducible refine (goodAtom ByteArray.empty hnm _).mono ?_); rintro e W2 ⟨rfl, T2⟩; rw [← HB.out]))
    all_goals
      go_ret; exact ⟨by rw [← HB.out]; rfl, ((((Turned.refl _ w).alloc _).alloc _).alloc _).trans (T1.trans T2)⟩
  | false =>
    have HQ : Hid (¬ (s.a = i ∧ s.b = 0 ∧ s.c = 0 ∧ s.name = ByteArray.empty)) := fun c => by
      rw [show stEqB s ⟨sInt, i, 0, 0, s.n, ByteArray.empty⟩ = true from stEqB_iff.2 ⟨hop, c.1, c.2.1, c.2.2.1, rfl, c.2.2.2⟩] at hq; cases hq
    clear hq hs; rw [hop]; go_enter Try.func149, Try.ntmps149
    go_wp2_with (go_at_call 63; exfalso; exact HQ.out (by first | exact ⟨‹_›, ‹_›, ‹_›, (bytes_nil _).1 ‹_›⟩ | exact ⟨‹_›, ‹_›, ‹_›, ‹_›⟩))
    all_goals
      go_ret; exact ⟨rfl, (((Turned.refl _ w).alloc _).alloc _).alloc _⟩
set_option maxRecDepth 100000 in
set_option maxHeartbeats 6400000 in
theorem one_atom {kb : Nat} {ar sl rg i : Int} {lv : Value} {s : Stp} {w : World} (hs : stOk s) (hop : s.op = sAtom) :
    Calls Try.prog 149 #[.pointer (some ⟨kb, 0, none⟩), .agg #[.int .i64 ar, .int .i64 sl, .int .i64 rg, lv], .int .i64 i, .agg #[.string s.op, .int .i64 s.a, .int .i64 s.b, .int .i64 s.c, .int .i64 s.n, .string s.name]] w fun e w' => e = .returned (.bool (stEqB s ⟨sAtom, i, 0, 0, 0, s.name⟩ && goodNameB s.name)) ∧ Turned (fun _ => False) w w' := by
  have hnm := hs.2.2.2.2.2; have o0 := op_Atom_Var; have o1 := op_Atom_Val; have o2 := op_Atom_Int; have o3 := op_Atom_Atom; have o4 := op_Atom_Comp; have en := empty_nil
  cases hq : stEqB s ⟨sAtom, i, 0, 0, 0, s.name⟩ with
  | true =>
    obtain ⟨_, h1, h2, h3, h4, h5⟩ := stEqB_iff.1 hq; obtain ⟨op, a, b, c, n, name⟩ := s; simp only at hop h1 h2 h3 h4 h5 hnm; subst hop h1 h2 h3 h4; clear hq hs; obtain ⟨B, hB⟩ : ∃ B, B = goodNameB name := ⟨_, rfl⟩; have HB := hid hB; clear hB; go_enter Try.func149, Try.ntmps149
    go_wp2_with (first
      | (go_at_call 63; (with_reducible refine (atomOnly name hnm _).mono ?_); rintro e W1 ⟨rfl, T1⟩)
      | (go_at_call 38; (with_reducible refine (goodAtom name hnm _).mono ?_); rintro e W2 ⟨rfl, T2⟩; rw [← HB.out]))
    all_goals
      go_ret; exact ⟨by rw [← HB.out]; rfl, ((((Turned.refl _ w).alloc _).alloc _).alloc _).trans (T1.trans T2)⟩
  | false =>
    have HQ : Hid (¬ (s.a = i ∧ s.b = 0 ∧ s.c = 0 ∧ s.n = 0)) := fun c => by
      rw [show stEqB s ⟨sAtom, i, 0, 0, 0, s.name⟩ = true from stEqB_iff.2 ⟨hop, c.1, c.2.1, c.2.2.1, c.2.2.2, rfl⟩] at hq; cases hq
    clear hq hs; rw [hop]; go_enter Try.func149, Try.ntmps149
    go_wp2_with (go_at_call 63; exfalso; exact HQ.out (by first | exact ⟨‹_›, ‹_›, ‹_›, (bytes_nil _).1 ‹_›⟩ | exact ⟨‹_›, ‹_›, ‹_›, ‹_›⟩))
    all_goals
      go_ret; exact ⟨rfl, (((Turned.refl _ w).alloc _).alloc _).alloc _⟩
end Go.Proofs.Ytoihjobdfjajfaa
