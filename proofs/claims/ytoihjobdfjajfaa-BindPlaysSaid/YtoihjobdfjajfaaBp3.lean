/- Merged texts: BD9, BD4, BD6, BD10, Deeps, AL7, BE1, DB2, DB3, DB4, DB5, DB6, DP1, DL1, DW0, DW1, BE2, BT1, BT2. -/
import Derived.Test.YtoihjobdfjajfaaBp2
import Derived.Deep.OwnRows
import Derived.Laws.OwnMore
import Derived.Deep.RegionLaw
import Derived.Deep.RegionHeld3
import Derived.Deep.DrawnRows
import Derived.Deep.DeepCutAuto
import Derived.Deep.CutBlock
import Derived.Lib.SliceRun
import Derived.LoopTactic
import Derived.BigRegion
namespace Go.Proofs.Ytoihjobdfjajfaa
set_option linter.unusedVariables false
set_option linter.unusedSimpArgs false
open Go.RowKit Go.Maps
theorem afterWalk {w3 : World} {N K bb : Nat} {s : Value} {a0 b0 c0 d0 z0 z1 z2 z3 : Value} (hN : w3.heap[N]? = some (.cells #[a0, b0, c0, d0] 27 (0, 0))) (hK : w3.heap[K]? = some (.cells #[.pointer (some ⟨bb, 0, none⟩), s] 170 (0, 0))) (h1 : w3.heap[N + 1]? = some (.cells #[z0, z1, z2, z3] 27 (0, 0))) (hne : K < N) (a b c d v : Value) :
    (((((w3.setCell ⟨N, 0, none⟩ a).setCell ⟨N, 1, none⟩ b).setCell ⟨N, 2, none⟩ c).setCell ⟨N, 3, none⟩ d).setCell ⟨K, 1, none⟩ v).heap[N]? = some (.cells #[a, b, c, d] 27 (0, 0)) ∧
    (((((w3.setCell ⟨N, 0, none⟩ a).setCell ⟨N, 1, none⟩ b).setCell ⟨N, 2, none⟩ c).setCell ⟨N, 3, none⟩ d).setCell ⟨K, 1, none⟩ v).heap[K]? = some (.cells #[.pointer (some ⟨bb, 0, none⟩), v] 170 (0, 0)) ∧
    (((((w3.setCell ⟨N, 0, none⟩ a).setCell ⟨N, 1, none⟩ b).setCell ⟨N, 2, none⟩ c).setCell ⟨N, 3, none⟩ d).setCell ⟨K, 1, none⟩ v).heap[N + 1]? = some (.cells #[z0, z1, z2, z3] 27 (0, 0)) ∧
    Turned (fun k => k = N ∨ k = K) w3 (((((w3.setCell ⟨N, 0, none⟩ a).setCell ⟨N, 1, none⟩ b).setCell ⟨N, 2, none⟩ c).setCell ⟨N, 3, none⟩ d).setCell ⟨K, 1, none⟩ v) := by
  have T1 := turned_store4 w3 N a b c d
  have hs := set4 (a' := a) (b' := b) (c' := c) (d' := d) hN
  have hk := (T1.block K (Array.getElem?_eq_some_iff.1 hK).1 (by omega)).trans hK
  have h1' := (T1.block (N + 1) (Array.getElem?_eq_some_iff.1 h1).1 (by omega)).trans h1
  revert T1 hs hk h1'
  generalize (((w3.setCell ⟨N, 0, none⟩ a).setCell ⟨N, 1, none⟩ b).setCell ⟨N, 2, none⟩ c).setCell ⟨N, 3, none⟩ d = W
  intro T1 hs hk h1'
  have T2 : Turned (fun k => k = K) W (W.setCell ⟨K, 1, none⟩ v) := (Turned.refl (fun k => k = K) W).setCell (p := ⟨K, 1, none⟩) (.inr rfl) v
  refine ⟨(T2.block N (Array.getElem?_eq_some_iff.1 hs).1 (by omega)).trans hs, rec2_set1 hk v, (T2.block (N + 1) (Array.getElem?_eq_some_iff.1 h1').1 (by omega)).trans h1', (T1.mono (fun _ _ e => .inl e)).trans (T2.mono (fun _ _ e => .inr e))⟩
theorem MakeQ.no {p : Nat → Prop} {bb K : Nat} {l : TL} {t : LT} {s d : Nat} {s' : Int} {w w' : World} (hno : Tm.makeOk s d (Tm.img (bt l) t.bare) = false) (hK : w'.heap[K]? = some (.cells #[.pointer (some ⟨bb, 0, none⟩), .int .i64 s'] 170 (0, 0))) (T : Turned (fun k => k = K) w w') :
    MakeQ p bb K l t s d w (.returned (.tuple #[.agg #[.int .i64 0, .int .i64 0, .string ⟨#[]⟩, .slice none 0 0], .bool false])) w' :=
  ⟨leaf 0 0 ByteArray.empty, by rw [hno]; rfl, leafIn' (i64_lit _ (by omega)) (i64_lit _ (by omega)) (by unfold maxLen; decide), fun c => by (rw [hno] at c; cases c), ⟨s', hK, fun c => by (rw [hno] at c; cases c)⟩, T⟩
theorem MakeQ.yes {p : Nat → Prop} {bb K : Nat} {l : TL} {t u : LT} {s d : Nat} {s' : Int} {w w' : World} (hok : Tm.makeOk s d (Tm.img (bt l) t.bare) = true) (hb : u.bare = Tm.img (bt l) t.bare) (hu : u.In (fun k => p k ∨ w.heap.size ≤ k) w') (hK : w'.heap[K]? = some (.cells #[.pointer (some ⟨bb, 0, none⟩), .int .i64 s'] 170 (0, 0))) (hs : s' = ((s + (Tm.img (bt l) t.bare).size : Nat) : Int)) (T : Turned (fun k => k = K) w w') :
    MakeQ p bb K l t s d w (.returned (.tuple #[.agg #[.int .i64 u.kind, .int .i64 u.n, .string u.name, .slice u.at_.1 u.args.length u.at_.2], .bool true])) w' :=
  ⟨u, by rw [hok, LT.val_eq], hu, fun _ => hb, ⟨s', hK, fun _ => hs⟩, T⟩
theorem leaf_make {m s d : Nat} {l : Tm.Trail} {t X : Tm Unit} (hl : Tm.okT m l) (h : Tm.Walked m l t X) (ha : X.args.length = 0) (hs : s + 1 ≤ 2000) (hd : d ≤ 64) : Tm.img l t = X ∧ Tm.makeOk s d (Tm.img l t) = true ∧ (Tm.img l t).size = 1 := by
  have ha' := List.eq_nil_of_length_eq_zero ha
  have hx := h.flat hl ha'
  have h1 : X.size = 1 := by rw [Tm.size_eq, ha']; rfl
  have h2 : X.depth = 1 := by rw [Tm.depth_eq, ha']; rfl
  exact ⟨hx, by rw [hx, Tm.makeOk_iff]; omega, by rw [hx, h1]⟩
theorem make_in {p q : Nat → Prop} {w3 w W W' : World} {K : Nat} {x : LT} (hp : ∀ k, p k → k < w.heap.size ∧ k ≠ K) (A : Turned (fun k => k = w.heap.size ∨ k = K) w3 W) (Tq : Turned (fun k => k = w.heap.size + 1) W W') (h : x.In p w3) (hq : ∀ k, p k → q k) : x.In q W' :=
  LT.In.turned Tq (fun k _ hk e => by have := (hp k hk).1; omega) (fun k _ hk => hq k hk) x (LT.In.turned A (fun k _ hk e => by have := hp k hk; omega) (fun _ _ hk => hk) x h)
structure MadeW (p : Nat → Prop) (bb sb m : Nat) (lv tv : Value) (l : TL) (K : Nat) (x : LT) (s : Int) (w W : World) : Prop where
  n0 : W.heap[w.heap.size]? = some (.cells #[.int .i64 x.kind, .int .i64 x.n, .string x.name, .slice x.at_.1 x.args.length x.at_.2] 27 (0, 0))
  n1 : W.heap[w.heap.size + 1]? = some (.cells #[.int .i64 0, .int .i64 0, .string ⟨#[]⟩, .slice none 0 0] 27 (0, 0))
  k : W.heap[K]? = some (.cells #[.pointer (some ⟨bb, 0, none⟩), .int .i64 s] 170 (0, 0))
  inn : x.In p W
  bi : BI p bb sb lv tv m l W
  turned : Turned (fun k => k = K) w W
theorem MadeW.mk' {p : Nat → Prop} {bb sb m : Nat} {lv tv : Value} {l : TL} {K : Nat} {x : LT} {s : Int} {w w2 w3 W : World} (h : BI p bb sb lv tv m l w) (hap : apart p bb sb lv tv l K) (A : W.heap[w.heap.size]? = some (.cells #[.int .i64 x.kind, .int .i64 x.n, .string x.name, .slice x.at_.1 x.args.length x.at_.2] 27 (0, 0)) ∧ W.heap[K]? = some (.cells #[.pointer (some ⟨bb, 0, none⟩), .int .i64 s] 170 (0, 0)) ∧ W.heap[w.heap.size + 1]? = some (.cells #[.int .i64 0, .int .i64 0, .string ⟨#[]⟩, .slice none 0 0] 27 (0, 0)) ∧ Turned (fun k => k = w.heap.size ∨ k = K) w3 W)
    (T2 : Turned (fun _ => False) w w2) (S3 : Turned (fun _ => False) w2 w3) (hx : x.In p w3) : MadeW p bb sb m lv tv l K x s w W := by
  have T : Turned (fun k => k = K) w W := ((T2.trans S3).mono (fun _ _ f => f.elim)).step A.2.2.2 (fun i hi e => e.elim (fun c => by omega) (fun c => c))
  exact ⟨A.1, A.2.2.1, A.2.1, LT.In.turned A.2.2.2 (fun k _ hk e => e.elim (fun c => by have := (h.sep k hk).1; omega) (fun c => hap.2.2 (c ▸ hk))) (fun _ _ hk => hk) x hx, h.turned T (fun k hk e => by rw [show k = K from e]; exact hap), T⟩
theorem MadeW.on {p : Nat → Prop} {bb sb m : Nat} {lv tv : Value} {l : TL} {K : Nat} {x : LT} {s : Int} {w W W' : World} (h : MadeW p bb sb m lv tv l K x s w W) (T : Turned (fun _ => False) W W') : MadeW p bb sb m lv tv l K x s w W' :=
  ⟨(T.block _ (Array.getElem?_eq_some_iff.1 h.n0).1 (fun f => f)).trans h.n0, (T.block _ (Array.getElem?_eq_some_iff.1 h.n1).1 (fun f => f)).trans h.n1, (T.block _ (Array.getElem?_eq_some_iff.1 h.k).1 (fun f => f)).trans h.k, h.inn.turned0 T, h.bi.turned0 T, h.turned.trans (T.mono (fun _ _ f => f.elim))⟩
theorem make_turned {w w2 w3 W W' : World} {K : Nat} (T2 : Turned (fun _ => False) w w2) (S3 : Turned (fun _ => False) w2 w3) (A : Turned (fun k => k = w.heap.size ∨ k = K) w3 W) (Tq : Turned (fun k => k = w.heap.size + 1) W W') : Turned (fun k => k = K) w W' :=
  ((((T2.trans S3).mono (fun _ _ f => f.elim)).step A (fun i hi e => e.elim (fun c => by omega) (fun c => c))).step Tq (fun i hi e => by omega))
def CallQ (p : Nat → Prop) (bb K : Nat) (ok : Bool) (y : Tm Unit) (sj : Nat) (wx : World) (u : LT) (W : World) : Prop :=
  u.In (fun k => p k ∨ wx.heap.size ≤ k) W ∧ (ok = true → u.bare = y) ∧ (∃ s' : Int, W.heap[K]? = some (.cells #[.pointer (some ⟨bb, 0, none⟩), .int .i64 s'] 170 (0, 0)) ∧ (ok = true → s' = ((sj + y.size : Nat) : Int))) ∧ Turned (fun k => k = K) wx W
def RowQ (p : Nat → Prop) (σ : Tm Unit → Tm Unit) (bb K G : Nat) (ok : Bool) (y : Tm Unit) (sj : Nat) (x : LT) (j : Nat) (W5 wx W : World) : Prop :=
  (∃ s' : Int, W.heap[K]? = some (.cells #[.pointer (some ⟨bb, 0, none⟩), .int .i64 s'] 170 (0, 0)) ∧ (ok = true → s' = ((sj + y.size : Nat) : Int))) ∧ Turned (fun k => k = K ∨ k = G) wx W ∧ (ok = true → ∃ us, MakI p σ G K x W5 (j + 1) us W)
def MrS (p : Nat → Prop) (σ : Tm Unit → Tm Unit) (bb K G : Nat) (ok : Bool) (y : Tm Unit) (sj : Nat) (x : LT) (j : Nat) (W5 wx : World) : List Value → World → Prop
  | [], W => Turned (fun _ => False) wx W
  | [a], W => ∃ u : LT, a = .tuple #[.agg #[.int .i64 u.kind, .int .i64 u.n, .string u.name, .slice u.at_.1 u.args.length u.at_.2], .bool ok] ∧ CallQ p bb K ok y sj wx u W
  | [_, b], W => ∃ u : LT, b = .tuple #[.agg #[.int .i64 u.kind, .int .i64 u.n, .string u.name, .slice u.at_.1 u.args.length u.at_.2], .bool ok] ∧ CallQ p bb K ok y sj wx u W
  | [_, b, c], W => ∃ u : LT, b = .tuple #[.agg #[.int .i64 u.kind, .int .i64 u.n, .string u.name, .slice u.at_.1 u.args.length u.at_.2], .bool ok] ∧ c = .agg #[.int .i64 u.kind, .int .i64 u.n, .string u.name, .slice u.at_.1 u.args.length u.at_.2] ∧ CallQ p bb K ok y sj wx u W
  | [_, b, _, _], W => (∃ u : LT, b = .tuple #[.agg #[.int .i64 u.kind, .int .i64 u.n, .string u.name, .slice u.at_.1 u.args.length u.at_.2], .bool ok]) ∧ RowQ p σ bb K G ok y sj x j W5 wx W
  | _, _ => False
section
variable {p : Nat → Prop} {σ : Tm Unit → Tm Unit} {bb K G : Nat} {ok : Bool} {y : Tm Unit} {sj : Nat} {x : LT} {j : Nat} {W5 wx W W' : World} {u : LT}
theorem CallQ.turned0 (h : CallQ p bb K ok y sj wx u W) (T : Turned (fun _ => False) W W') : CallQ p bb K ok y sj wx u W' := by
  obtain ⟨h1, h2, ⟨s', h3, h4⟩, h5⟩ := h
  exact ⟨h1.turned0 T, h2, ⟨s', (T.block _ (Array.getElem?_eq_some_iff.1 h3).1 (fun f => f)).trans h3, h4⟩, h5.trans (T.mono (fun _ _ f => f.elim))⟩
theorem MakI.on {t : LT} {w3 : World} {us : List LT} (h : MakI p σ G K t w3 j us W) (T : Turned (fun _ => False) W W') : MakI p σ G K t w3 j us W' :=
  ⟨h.len, h.bares, h.row.turned0 T, h.ins.turned0 T, h.turned.trans (T.mono (fun _ _ f => f.elim))⟩
theorem RowQ.turned0 (h : RowQ p σ bb K G ok y sj x j W5 wx W) (T : Turned (fun _ => False) W W') : RowQ p σ bb K G ok y sj x j W5 wx W' := by
  obtain ⟨⟨s', h3, h4⟩, h5, h6⟩ := h
  refine ⟨⟨s', (T.block _ (Array.getElem?_eq_some_iff.1 h3).1 (fun f => f)).trans h3, h4⟩, h5.trans (T.mono (fun _ _ f => f.elim)), fun e => ?_⟩
  obtain ⟨us, h⟩ := h6 e
  exact ⟨us, h.on T⟩
theorem MrS.turned0 : ∀ (hs : List Value) (w w' : World), MrS p σ bb K G ok y sj x j W5 wx hs w → Turned (fun _ => False) w w' → MrS p σ bb K G ok y sj x j W5 wx hs w'
  | [], _, _, h, T => Turned.trans h T
  | [_], _, _, h, T => by obtain ⟨u, h1, h2⟩ := h; exact ⟨u, h1, h2.turned0 T⟩
  | [_, _], _, _, h, T => by obtain ⟨u, h1, h2⟩ := h; exact ⟨u, h1, h2.turned0 T⟩
  | [_, _, _], _, _, h, T => by obtain ⟨u, h1, h2, h3⟩ := h; exact ⟨u, h1, h2, h3.turned0 T⟩
  | [_, _, _, _], _, _, h, T => ⟨h.1, h.2.turned0 T⟩
  | _ :: _ :: _ :: _ :: _ :: _, _, _, h, _ => h.elim
theorem MrS.turned : ∀ (hs : List Value) (W : World), MrS p σ bb K G ok y sj x j W5 wx hs W → Turned (fun k => k = K ∨ k = G) wx W
  | [], _, h => Turned.mono h (fun _ _ f => f.elim)
  | [_], _, h => by obtain ⟨u, h1, h2⟩ := h; exact h2.2.2.2.mono (fun _ _ e => .inl e)
  | [_, _], _, h => by obtain ⟨u, h1, h2⟩ := h; exact h2.2.2.2.mono (fun _ _ e => .inl e)
  | [_, _, _], _, h => by obtain ⟨u, h1, h2, h3⟩ := h; exact h3.2.2.2.mono (fun _ _ e => .inl e)
  | [_, _, _, _], _, h => h.2.2.1
  | _ :: _ :: _ :: _ :: _ :: _, _, h => h.elim
theorem MrS.tup : ∀ (hs : List Value) (W : World) (b : Value), MrS p σ bb K G ok y sj x j W5 wx hs W → hs[1]? = some b → ∃ u : LT, b = .tuple #[.agg #[.int .i64 u.kind, .int .i64 u.n, .string u.name, .slice u.at_.1 u.args.length u.at_.2], .bool ok]
  | [], _, _, _, e => by simp at e
  | [_], _, _, _, e => by simp at e
  | [_, _], _, _, h, e => by simp at e; subst e; obtain ⟨u, h1, _⟩ := h; exact ⟨u, h1⟩
  | [_, _, _], _, _, h, e => by simp at e; subst e; obtain ⟨u, h1, _⟩ := h; exact ⟨u, h1⟩
  | [_, _, _, _], _, _, h, e => by simp at e; subst e; exact h.1
  | _ :: _ :: _ :: _ :: _ :: _, _, _, h, _ => h.elim
theorem mr_store {w3 wr : World} {us : List LT} {xj : LT} (h : MakI p σ G K x W5 j us wr) (TX : Turned (fun _ => False) wr wx) (hp : ∀ k, p k → k < G ∧ k ≠ K) (hKG : K < G) (hG : G < wr.heap.size) (hx : x.args[j]? = some xj) (hy : σ xj.bare = y) (hC : CallQ p bb K ok y sj wx u W) :
    RowQ p σ bb K G ok y sj x j W5 wx ((((W.setCell ⟨G, j * 4, none⟩ (.int .i64 u.kind)).setCell ⟨G, j * 4 + 1, none⟩ (.int .i64 u.n)).setCell ⟨G, j * 4 + 2, none⟩ (.string u.name)).setCell ⟨G, j * 4 + 3, none⟩ (.slice u.at_.1 u.args.length u.at_.2)) := by
  obtain ⟨h1, h2, ⟨s', h3, h4⟩, h5⟩ := hC
  have Tq : Turned (fun k => k = G) W ((((W.setCell ⟨G, j * 4, none⟩ (.int .i64 u.kind)).setCell ⟨G, j * 4 + 1, none⟩ (.int .i64 u.n)).setCell ⟨G, j * 4 + 2, none⟩ (.string u.name)).setCell ⟨G, j * 4 + 3, none⟩ (.slice u.at_.1 u.args.length u.at_.2)) :=
    ((((Turned.refl (fun k => k = G) W).setCell (p := ⟨G, j * 4, none⟩) (.inr rfl) _).setCell (p := ⟨G, j * 4 + 1, none⟩) (.inr rfl) _).setCell (p := ⟨G, j * 4 + 2, none⟩) (.inr rfl) _).setCell (p := ⟨G, j * 4 + 3, none⟩) (.inr rfl) _
  refine ⟨⟨s', (Tq.block K (Array.getElem?_eq_some_iff.1 h3).1 (by omega)).trans h3, h4⟩, (h5.mono (fun _ _ e => .inl e)).trans (Tq.mono (fun _ _ e => .inr e)), fun e => ⟨_, h.put hp hKG hG hx ((h2 e).trans hy.symm) (h1.mono (fun k _ hk => hk.elim .inl (fun hk => .inr (Nat.le_trans TX.size hk)))) ((TX.mono (fun _ _ f => f.elim)).trans h5)⟩⟩
end
theorem brings_build27 {o : Oper} {a : Act} {w : World} {F : Value → World → Prop} (x y z : Tmp) (ho : o.op = Op.build 27 #[(0, .tmp x), (2, .tmp y), (3, .tmp z)]) {k : Int} {nm : ByteArray} {sa : Option Addr} {sn sc : Nat} (hx : a.tmps.getD x undef = .int .i64 k) (hy : a.tmps.getD y undef = .string nm) (hz : a.tmps.getD z undef = .slice sa sn sc)
    (h : F (.agg #[.int .i64 k, .int .i64 0, .string nm, .slice sa sn sc]) w) : Brings Try.prog F ((execOp a.eval o).run Try.prog w) := by
  have e : ∀ q, a.eval (.tmp q) = a.tmps.getD q undef := fun _ => rfl
  unfold execOp
  simp only [ho, List.map_toArray, List.map_cons, List.map_nil, e, hx, hy, hz]
  go_simp
  exact h
def MakL (p : Nat → Prop) (bb K : Nat) (l : TL) (x : LT) (s d G : Nat) (Y : List (Tm Unit)) (W5 : World) (k : Nat) (i : Value) (wr : World) : Prop :=
  ∃ (j : Nat) (us : List LT), Hid (j + k = x.args.length) ∧ j ≤ x.args.length ∧ i = .int .i64 j ∧ Hid (MakI p (Tm.img (bt l)) G K x W5 j us wr) ∧ Hid (wr.heap[K]? = some (.cells #[.pointer (some ⟨bb, 0, none⟩), .int .i64 ((s + 1 + Tm.sizes (Y.take j) : Nat) : Int)] 170 (0, 0))) ∧ Hid (s + 1 + Tm.sizes (Y.take j) ≤ 2000) ∧ Hid (∀ y ∈ Y.take j, d + 1 + y.depth ≤ 65)
set_option maxRecDepth 100000 in
set_option maxHeartbeats 12800000 in
theorem make147 {p : Nat → Prop} {bb sb m : Nat} {lv tv : Value} {l : TL} {K : Nat} (n : Nat) : ∀ (t : LT) (w : World) (s d : Nat), d + n = 66 → d ≤ 65 → BI p bb sb lv tv m l w → t.In p w → (∀ z ∈ t.bare.flat, goodOneB z = true) → apart p bb sb lv tv l K →
    w.heap[K]? = some (.cells #[.pointer (some ⟨bb, 0, none⟩), .int .i64 s] 170 (0, 0)) → s ≤ 2000 → Calls Try.prog 147 #[.pointer (some ⟨K, 0, none⟩), t.val, .int .i64 d] w (MakeQ p bb K l t s d w) := by
  induction n with
  | zero => intro t w s d h1 h2; omega
  | succ n ih =>
    intro t w s d hdn hd h ht hg hap hK hs
    have h2 := twoBox w (.cells #[.int .i64 t.kind, .int .i64 t.n, .string t.name, .slice t.at_.1 t.args.length t.at_.2] 27) (.cells #[.int .i64 0, .int .i64 0, .string ⟨#[]⟩, .slice none 0 0] 27)
    have hkl := (Array.getElem?_eq_some_iff.1 hK).1
    obtain ⟨w2, hw2⟩ : ∃ z, z = (w.alloc (.cells #[.int .i64 t.kind, .int .i64 t.n, .string t.name, .slice t.at_.1 t.args.length t.at_.2] 27)).alloc (.cells #[.int .i64 0, .int .i64 0, .string ⟨#[]⟩, .slice none 0 0] 27) := ⟨_, rfl⟩
    rw [← hw2] at h2
    have hkp : ∀ W, Turned (fun _ => False) w2 W → W.heap[K]? = some (.cells #[.pointer (some ⟨bb, 0, none⟩), .int .i64 s] 170 (0, 0)) := fun W hW => ((h2.1.trans hW).block K hkl (fun f => f)).trans hK
    have hcp : ∀ W, Turned (fun _ => False) w2 W → W.heap[w.heap.size]? = some (.cells #[.int .i64 t.kind, .int .i64 t.n, .string t.name, .slice t.at_.1 t.args.length t.at_.2] 27 (0, 0)) ∧ W.heap[w.heap.size + 1]? = some (.cells #[.int .i64 0, .int .i64 0, .string ⟨#[]⟩, .slice none 0 0] 27 (0, 0)) := fun W hW => ⟨(hW.block _ (by have := h2.2.1; omega) (fun f => f)).trans h2.2.2.1, (hW.block _ (by have := h2.2.1; omega) (fun f => f)).trans h2.2.2.2⟩
    have hwk : ∀ W, Turned (fun _ => False) w2 W → Calls Try.prog 90 #[.pointer (some ⟨bb, 0, none⟩), t.val] W fun e w' => ∃ x : LT, e = .returned x.val ∧ x.In p w' ∧ x.bare = Tm.walkT (bt l) t.bare ∧ Turned (fun _ => False) W w' := fun W hW => walk90 (h.turned0 (h2.1.trans hW)) (ht.turned0 (h2.1.trans hW)) hg
    have hwd := Tm.walked h.ok _ t.bare (Nat.le_refl _) hg
    obtain ⟨X, hX⟩ : ∃ z, z = Tm.walkT (bt l) t.bare := ⟨_, rfl⟩
    rw [← hX] at hwk hwd
    have HV := LT.val_eq t
    rw [HV] at hwk
    rw [HV]
    have HWK := Lib.hid hwk
    have HKP := Lib.hid hkp
    have HCP := Lib.hid hcp
    have HW2 := Lib.hid hw2
    have HWD := Lib.hid hwd
    have HKL := Lib.hid hkl
    have hKN : K ≠ w.heap.size := by omega
    have hNK : w.heap.size ≠ K := by omega
    have hKN1 : K ≠ w.heap.size + 1 := by omega
    have hNK1 : w.heap.size + 1 ≠ K := by omega
    have HT2 := Lib.hid h2.1
    have HH := Lib.hid h
    have HAP := Lib.hid hap
    clear hwk hkp hcp h2 hX hkl hK ht hg hap HV hw2 hwd h
    by_cases hA : s + 1 ≤ 2000
    · have d1 : decide (2000 < (s : Int) + 1) = false := decide_eq_false (by omega)
      by_cases hD : d ≤ 64
      · have d2 : decide (64 < (d : Int)) = false := decide_eq_false (by omega)
        obtain ⟨q, hq⟩ : ∃ z, z = X.args.length := ⟨_, rfl⟩
        by_cases hL : q = 0
        · have HLM := Lib.hid (leaf_make HH.out.ok HWD.out (by rw [← hq]; exact hL) hA hD)
          have HQ := Lib.hid (show X.args.length = 0 by rw [← hq]; exact hL)
          clear hq hL
          go_enter Try.func147, Try.ntmps147
          go_wp2_with fail
          rw [← HW2.out]
          obtain ⟨e0, e1, _⟩ := rec2b (HKP.out w2 (Turned.refl _ _))
          obtain ⟨y0, y1, y2, y3, _⟩ := cells4 (HCP.out w2 (Turned.refl _ _)).1
          refine region_tail 5 (by kernel_rfl) (by kernel_rfl) ?_
          simp only [List.take_succ_cons, List.take_zero, List.drop_succ_cons, List.drop_zero]
          repeat still_step
          refine wpStill_nil ?_
          go_wp2_with (go_at_call 90; (with_reducible refine (HWK.out _ (Turned.refl _ _).drew).mono ?_); rintro e w3 ⟨x, rfl, hxin, hxb, T3⟩; rw [LT.val_eq x]; have S3 := (Turned.refl _ w2).drew.trans T3; have hq3 := HKP.out _ S3; obtain ⟨hb3, hz3⟩ := HCP.out _ S3; obtain ⟨k0, k1, kf0, kf1⟩ := rec2b hq3; obtain ⟨c0, c1, c2, c3, f0, f1, f2, f3⟩ := cells4 hb3; obtain ⟨z0, z1, z2, z3, g0, g1, g2, g3⟩ := cells4 hz3; have HAW := Lib.hid (afterWalk hb3 hq3 hz3 HKL.out (.int .i64 x.kind) (.int .i64 x.n) (.string x.name) (.slice x.at_.1 x.args.length x.at_.2) (.int .i64 ((s : Int) + 1))); have HXI := Lib.hid hxin; have HXB := Lib.hid hxb; have HS3 := Lib.hid S3; have hal2 : ((x.args.length : Int) == 0) = true := (by (have h1 := Tm.bare_arity x; have h2 := HQ.out; rw [hxb] at h1; rw [← h1, h2]; rfl)); clear hq3 hb3 hz3 hxin hxb S3 T3)
          obtain ⟨A1, A2, A3, A4⟩ := HAW.out
          have hset := set4 (a' := .int .i64 x.kind) (b' := .int .i64 x.n) (c' := .string x.name) (d' := .slice x.at_.1 x.args.length x.at_.2) A3
          have Tq := fun W => turned_store4 W (w.heap.size + 1) (.int .i64 x.kind) (.int .i64 x.n) (.string x.name) (.slice x.at_.1 x.args.length x.at_.2)
          have hp : ∀ k, p k → k < w.heap.size ∧ k ≠ K := fun k hk => ⟨(HH.out.sep k hk).1, fun e => HAP.out.2.2 (e ▸ hk)⟩
          refine bodyPost_ret (results_cell_tmp1 Try.results147 _ _ (w.heap.size + 1) 27 _ (0, 0) _ rfl hset Try.underlying27 rfl (by kernel_rfl)) rfl (MakeQ.yes HLM.out.2.1 (HXB.out.trans HLM.out.1.symm) (make_in hp A4 (Tq _) HXI.out (fun _ hk => .inl hk)) (((Tq _).block K (Array.getElem?_eq_some_iff.1 A2).1 (by omega)).trans A2) (by rw [HLM.out.2.2]; omega) (make_turned HT2.out HS3.out A4 (Tq _)))
        · have hxa : ¬ X.args = [] := fun e => hL (by rw [hq, e]; rfl)
          have HKN := Lib.hid (Tm.one_args (HWD.out.ones X (by rw [Tm.flat_eq]; exact List.mem_cons_self ..)) hxa)
          have HAR := Lib.hid (HWD.out.args hxa)
          have HQ := Lib.hid (show 0 < X.args.length by omega)
          clear hq hL hxa
          go_enter Try.func147, Try.ntmps147
          go_wp2_with fail
          rw [← HW2.out]
          obtain ⟨e0, e1, _⟩ := rec2b (HKP.out w2 (Turned.refl _ _))
          obtain ⟨y0, y1, y2, y3, _⟩ := cells4 (HCP.out w2 (Turned.refl _ _)).1
          refine region_tail 5 (by kernel_rfl) (by kernel_rfl) ?_
          simp only [List.take_succ_cons, List.take_zero, List.drop_succ_cons, List.drop_zero]
          repeat still_step
          refine wpStill_nil ?_
          go_wp2_with (go_at_call 90; (with_reducible refine (HWK.out _ (Turned.refl _ _).drew).mono ?_); rintro e w3 ⟨x, rfl, hxin, hxb, T3⟩; rw [LT.val_eq x]; have S3 := (Turned.refl _ w2).drew.trans T3; have hq3 := HKP.out _ S3; obtain ⟨hb3, hz3⟩ := HCP.out _ S3; obtain ⟨k0, k1, kf0, kf1⟩ := rec2b hq3; obtain ⟨c0, c1, c2, c3, f0, f1, f2, f3⟩ := cells4 hb3; obtain ⟨z0, z1, z2, z3, g0, g1, g2, g3⟩ := cells4 hz3; have HAW := Lib.hid (afterWalk hb3 hq3 hz3 HKL.out (.int .i64 x.kind) (.int .i64 x.n) (.string x.name) (.slice x.at_.1 x.args.length x.at_.2) (.int .i64 ((s : Int) + 1))); have HXI := Lib.hid hxin; have HXB := Lib.hid hxb; have HS3 := Lib.hid S3; have hal2 : ((x.args.length : Int) == 0) = false := (by (have h1 := Tm.bare_arity x; have h2 := HQ.out; rw [hxb] at h1; simp only [beq_eq_false_iff_ne, ne_eq]; omega)); clear hq3 hb3 hz3 hxin hxb S3 T3)
          have HM := Lib.hid (MadeW.mk' HH.out HAP.out HAW.out HT2.out HS3.out HXI.out)
          clear HAW HXI HS3 HT2
          revert HM
          generalize (((((w3.setCell ⟨w.heap.size, 0, none⟩ (.int .i64 x.kind)).setCell ⟨w.heap.size, 1, none⟩ (.int .i64 x.n)).setCell ⟨w.heap.size, 2, none⟩ (.string x.name)).setCell ⟨w.heap.size, 3, none⟩ (.slice x.at_.1 x.args.length x.at_.2)).setCell ⟨K, 1, none⟩ (.int .i64 ((s : Int) + 1))) = W4
          intro HM
          have hal8 : x.args.length ≤ 8 := by have h1 := Tm.bare_arity x; have h2 := HKN.out.2.2; rw [HXB.out] at h1; omega
          have HLP : Hid (0 < x.args.length) := by show 0 < _; have h1 := Tm.bare_arity x; have h2 := HQ.out; rw [HXB.out] at h1; omega
          have HCX := Lib.hid (fun W (T : Turned (fun _ => False) W4 W) => cells4 (HM.out.on T).n0)
          clear c0 c1 c2 c3 f0 f1 f2 f3 z0 z1 z2 z3 g0 g1 g2 g3 k0 k1 kf0 kf1 e0 e1 y0 y1 y2 y3
          refine wp_region_k [40, 41, 42, 43, 44, 45, 46, 47, 48, 8] [7, 8, 9, 10] [(47, 7), (48, 8), (8, 9)] (fun dd v => (match dd with | 40 => v = .pointer (some ⟨w.heap.size, 0, none⟩) | 41 => v = .int .i64 x.kind | 42 => v = .pointer (some ⟨w.heap.size, 2, none⟩) | 43 => v = .string x.name | 44 => v = .pointer (some ⟨w.heap.size, 3, none⟩) | 45 => v = .slice x.at_.1 x.args.length x.at_.2 | 46 => v = .int .i64 x.args.length | _ => True : Prop)) (MkR W4 x x.args.length) (by kernel_rfl) rfl (by kernel_rfl) (by kernel_rfl) (fun w h => MkR.start h) (fun hs w w' h ht => h.turned0 ht) ?hs ?hQ
          case hs =>
            refine ⟨?s0, ?s1, ?s2, ?s3, ?s4, ?s5, ?s6, ?s7, ?s8, ?s9, ?s10, trivial⟩
            case s0 =>
              refine fun hs hl => stepG_free [] [4] (by kernel_rfl) rfl ?_
              intro ac W hT hI hO
              have h4 : ac.tmps.getD 4 undef = .pointer (some ⟨w.heap.size, 0, none⟩) := hO 4 (by simp)
              show Brings Try.prog (fun v w' => Turned (fun _ => False) W w' ∧ v = .pointer (some ⟨w.heap.size, 0, none⟩)) _
              simp only [execOp, Act.eval, h4]
              go_simp
              try exact ⟨Turned.refl _ _, rfl⟩
            case s1 =>
              refine fun hs hl => stepG_free [40] [] (by kernel_rfl) rfl ?_
              intro ac W hT hI hO
              have h40 : ac.tmps.getD 40 undef = .pointer (some ⟨w.heap.size, 0, none⟩) := hI 40 (by simp)
              show Brings Try.prog (fun v w' => Turned (fun _ => False) W w' ∧ v = .int .i64 x.kind) _
              obtain ⟨q0, q1, q2, q3, _⟩ := HCX.out W hT.t
              simp only [execOp, Act.eval, h40]
              go_simp
              try exact ⟨Turned.refl _ _, rfl⟩
            case s2 =>
              refine fun hs hl => stepG_free [] [4] (by kernel_rfl) rfl ?_
              intro ac W hT hI hO
              have h4 : ac.tmps.getD 4 undef = .pointer (some ⟨w.heap.size, 0, none⟩) := hO 4 (by simp)
              show Brings Try.prog (fun v w' => Turned (fun _ => False) W w' ∧ v = .pointer (some ⟨w.heap.size, 2, none⟩)) _
              simp only [execOp, Act.eval, h4]
              go_simp
              try exact ⟨Turned.refl _ _, rfl⟩
            case s3 =>
              refine fun hs hl => stepG_free [42] [] (by kernel_rfl) rfl ?_
              intro ac W hT hI hO
              have h42 : ac.tmps.getD 42 undef = .pointer (some ⟨w.heap.size, 2, none⟩) := hI 42 (by simp)
              show Brings Try.prog (fun v w' => Turned (fun _ => False) W w' ∧ v = .string x.name) _
              obtain ⟨q0, q1, q2, q3, _⟩ := HCX.out W hT.t
              simp only [execOp, Act.eval, h42]
              go_simp
              try exact ⟨Turned.refl _ _, rfl⟩
            case s4 =>
              refine fun hs hl => stepG_free [] [4] (by kernel_rfl) rfl ?_
              intro ac W hT hI hO
              have h4 : ac.tmps.getD 4 undef = .pointer (some ⟨w.heap.size, 0, none⟩) := hO 4 (by simp)
              show Brings Try.prog (fun v w' => Turned (fun _ => False) W w' ∧ v = .pointer (some ⟨w.heap.size, 3, none⟩)) _
              simp only [execOp, Act.eval, h4]
              go_simp
              try exact ⟨Turned.refl _ _, rfl⟩
            case s5 =>
              refine fun hs hl => stepG_free [44] [] (by kernel_rfl) rfl ?_
              intro ac W hT hI hO
              have h44 : ac.tmps.getD 44 undef = .pointer (some ⟨w.heap.size, 3, none⟩) := hI 44 (by simp)
              show Brings Try.prog (fun v w' => Turned (fun _ => False) W w' ∧ v = .slice x.at_.1 x.args.length x.at_.2) _
              obtain ⟨q0, q1, q2, q3, _⟩ := HCX.out W hT.t
              simp only [execOp, Act.eval, h44]
              go_simp
              try exact ⟨Turned.refl _ _, rfl⟩
            case s6 =>
              refine fun hs hl => stepG_free [45] [] (by kernel_rfl) rfl ?_
              intro ac W hT hI hO
              have h45 : ac.tmps.getD 45 undef = .slice x.at_.1 x.args.length x.at_.2 := hI 45 (by simp)
              show Brings Try.prog (fun v w' => Turned (fun _ => False) W w' ∧ v = .int .i64 x.args.length) _
              simp only [execOp, Act.eval, h45]
              go_simp
              try exact ⟨Turned.refl _ _, rfl⟩
            case s7 =>
              refine fun hs hno hl => stepG_free [46] [] (by kernel_rfl) rfl ?_
              intro ac W hT hI hO
              have h46 : ac.tmps.getD 46 undef = .int .i64 x.args.length := hI 46 (by simp)
              show Brings Try.prog (fun v w' => MkR W4 x x.args.length (hs ++ [(7, v)]) w') _
              have hmk := make_blanksT x.args.length (by omega) W
              have hm1 := hmk.1
              have HM2 := Lib.hid hmk.2
              clear hmk
              simp only [execOp, Act.eval, h46]
              go_simp
              exact hT.made hno HM2.out
            case s8 =>
              refine fun hs hno hl => stepG_free [41, 43, 47] [] (by kernel_rfl) rfl ?_
              intro ac W hT hI hO
              have h41 : ac.tmps.getD 41 undef = .int .i64 x.kind := hI 41 (by simp)
              have h43 : ac.tmps.getD 43 undef = .string x.name := hI 43 (by simp)
              have h47 : (7, ac.tmps.getD 47 undef) ∈ hs := hI 47 (by simp)
              show Brings Try.prog (fun v w' => MkR W4 x x.args.length (hs ++ [(8, v)]) w') _
              obtain ⟨G, eG, _, _⟩ := hT.row _ h47
              refine brings_build27 41 43 47 rfl h41 h43 eG ?_
              rw [eG] at h47
              exact hT.built h47
            case s9 =>
              refine fun hs hno hl => stepG_free [] [] (by kernel_rfl) rfl ?_
              intro ac W hT hI hO
              show Brings Try.prog (fun v w' => MkR W4 x x.args.length (hs ++ [(9, v)]) w') _
              simp only [execOp, Act.eval]
              go_simp
              exact hT.laid hno (fun q => hl 10 11 q (by kernel_rfl))
            case s10 =>
              refine fun hs hno hl => stepG_free [8, 48] [] (by kernel_rfl) rfl ?_
              intro ac W hT hI hO
              have h8 : (9, ac.tmps.getD 8 undef) ∈ hs := hI 8 (by simp)
              have h48 : (8, ac.tmps.getD 48 undef) ∈ hs := hI 48 (by simp)
              obtain ⟨B, a0, a1, a2, a3, eB, hB⟩ := hT.cell h8
              obtain ⟨sv, hsv, eA⟩ := hT.agg _ h48
              obtain ⟨G, eG, _, _⟩ := hT.row _ hsv
              rw [eG] at eA
              obtain ⟨d0, d1, d2, d3, f0, f1, f2, f3⟩ := cells4 hB
              show Brings Try.prog (fun v w' => MkR W4 x x.args.length (hs ++ [(10, v)]) w') _
              simp only [execOp, Act.eval, eB, eA]
              go_simp
              rw [eB] at h8
              rw [eA] at h48
              exact hT.stored h8 h48
          case hQ =>
            intro hs7 vs W5 hall huniq hR hV
            obtain ⟨G, B, q8, hGB, hG, hB, hb5, hr5, T5⟩ := hR.done hall (hV 8 (by simp)) huniq
            simp only [List.foldl_cons, List.foldl_nil, List.setIfInBounds_toArray, List.set_cons_zero, List.set_cons_succ, q8]
            have HM5 := Lib.hid (HM.out.on T5)
            have HB5 := Lib.hid hb5
            have HZ : Hid (G ≠ B ∧ w.heap.size + 2 ≤ G ∧ w.heap.size + 2 ≤ B ∧ B < W5.heap.size ∧ G < W5.heap.size) := by
              have h1 := (Array.getElem?_eq_some_iff.1 HM.out.n1).1
              exact ⟨hGB, by omega, by omega, (Array.getElem?_eq_some_iff.1 hb5).1, hr5.lt G rfl⟩
            obtain ⟨c0, c1, c2, c3, _⟩ := cells4 HM5.out.n0
            have hL := fun W h => (LT.In.lies (p := p) (w := W) (t := x) h)
            obtain ⟨ad, had⟩ : ∃ z, z = x.at_.1 := ⟨_, rfl⟩
            rw [← had] at hL c3
            rw [← had]
            have HL := Lib.hid hL
            obtain ⟨o0, o1, o2, o3, _⟩ := cells4 hb5
            have HMI : Hid (MakI p (Tm.img (bt l)) G K x W5 0 (blanks x.args.length) W5) := ⟨blanks_length _, rfl, hr5, blanks_in _ _ _, Turned.refl _ _⟩
            obtain ⟨Y, hY⟩ : ∃ z, z = x.args.map (fun y => Tm.img (bt l) y.bare) := ⟨_, rfl⟩
            have HYI : Hid (Tm.img (bt l) t.bare = .mk x.kind 0 x.name () Y) := by
              show _ = _
              have h1 := HAR.out
              rw [← HXB.out, Tm.bare_kind, Tm.bare_name, Tm.bare_args, Tm.bares_eq, List.map_map] at h1
              rw [h1, hY]
              rfl
            have HY := Lib.hid hY
            clear hall huniq hR hV hs7 hGB hG hB hb5 hr5 T5 q8 hY had hL
            go_wp2_with fail
            go_loopg [52] x.args.length (fun k i wr => MakL p bb K l x s d G Y W5 k i wr)
            case atStart => exact ⟨0, _, Nat.zero_add _, Nat.zero_le _, rfl, HMI, show _ = _ by (have := HM5.out.k; simpa [Tm.sizes] using this), show _ ≤ _ by simpa [Tm.sizes] using hA, fun y hy => by simp at hy⟩
            case round =>
              obtain ⟨j, us, HG, hj, rfl, HMI, HKJ, HSJ, HDJ⟩ := hrel
              have hob := (HMI.out.turned.block B HZ.out.2.2.2.1 (fun e => by have := HZ.out; have := HKL.out; omega)).trans HB5.out
              have HXJ := Lib.hid (LT.In.turned HMI.out.turned (fun k _ hk e => by
                have h1 := (HH.out.sep k hk).1
                rcases e with e | e
                · have := HZ.out; omega
                · exact HAP.out.2.2 (e ▸ hk)) (fun _ _ hk => hk) x HM5.out.inn)
              have HBJ : Hid (BI p bb sb lv tv m l wr) := HM5.out.bi.turned HMI.out.turned (fun k hk e => by
                rcases e with e | e
                · subst e
                  have h0 := HZ.out.2.1
                  refine ⟨fun c => by have := HH.out.own_lt _ c; omega, fun b hb c => by have := (Array.getElem?_eq_some_iff.1 (HH.out.terms b hb).1).1; omega, fun c => by have := (HH.out.sep _ c).1; omega⟩
                · rw [show k = K from e]; exact HAP.out)
              have HSZ : Hid (W5.heap.size ≤ wr.heap.size) := HMI.out.turned.size
              obtain ⟨o0, o1, o2, o3, _⟩ := cells4 hob
              have HOB := Lib.hid hob
              clear hob
              by_cases hjl : j < x.args.length
              · obtain ⟨xj, hxj⟩ : ∃ y : LT, x.args[j]? = some y := ⟨_, List.getElem?_eq_getElem hjl⟩
                have hYj : Y[j]? = some (Tm.img (bt l) xj.bare) := by rw [HY.out, List.getElem?_map, hxj]; rfl
                have hone : ∀ z ∈ xj.bare.flat, goodOneB z = true := fun z hz => HWD.out.ones z (by
                  rw [← HXB.out, Tm.flat_eq]
                  refine List.mem_cons_of_mem _ (Tm.mem_flats_iff.2 ⟨xj.bare, ?_, hz⟩)
                  rw [Tm.bare_args, Tm.bares_eq]
                  exact List.mem_map_of_mem (List.mem_of_getElem? hxj))
                have hih := fun W (T : Turned (fun _ => False) wr W) => ih xj W (s + 1 + Tm.sizes (Y.take j)) (d + 1) (by omega) (by omega) (HBJ.out.turned0 T) ((LT.ins_iff _).1 (HXJ.out.turned0 T).args xj (List.mem_of_getElem? hxj)) hone HAP.out ((T.block K (Array.getElem?_eq_some_iff.1 HKJ.out).1 (fun f => f)).trans HKJ.out) HSJ.out
                rw [show (((d + 1 : Nat) : Int)) = (d : Int) + 1 from by omega, LT.val_eq xj] at hih
                obtain ⟨b, o, rfl, _, x0, x1, x2, x3⟩ := (HL.out _ HXJ.out).cell hxj
                have HXX := Lib.hid hxj
                have HYJ := Lib.hid hYj
                have hhw : (w.heap.size + 1 : Nat) ≠ G := by have := HZ.out; omega
                have hbx := heap_alloc_new wr (.cells #[.int .i64 xj.kind, .int .i64 xj.n, .string xj.name, .slice xj.at_.1 xj.args.length xj.at_.2] 27)
                have TX : Turned (fun _ => False) wr (wr.alloc (.cells #[.int .i64 xj.kind, .int .i64 xj.n, .string xj.name, .slice xj.at_.1 xj.args.length xj.at_.2] 27)) := (Turned.refl _ wr).alloc _
                have HBT := And.intro (Lib.hid hbx) (Lib.hid TX)
                clear hbx TX hxj hYj hone
                obtain ⟨ok, hok⟩ : ∃ z, z = Tm.makeOk (s + 1 + Tm.sizes (Y.take j)) (d + 1) (Tm.img (bt l) xj.bare) := ⟨_, rfl⟩
                have hih' : ∀ W, Turned (fun _ => False) wr W → Calls Try.prog 147 #[.pointer (some ⟨K, 0, none⟩), .agg #[.int .i64 xj.kind, .int .i64 xj.n, .string xj.name, .slice xj.at_.1 xj.args.length xj.at_.2], .int .i64 ((d : Int) + 1)] W fun e w' => ∃ u : LT, e = .returned (.tuple #[u.val, .bool ok]) ∧ CallQ p bb K ok (Tm.img (bt l) xj.bare) (s + 1 + Tm.sizes (Y.take j)) W u w' := fun W T => (hih W T).mono (fun e w' ⟨u, h1, h2, h3, h4, h5⟩ => ⟨u, by rw [h1, hok], h2, by rw [hok]; exact h3, by rw [hok]; exact h4, h5⟩)
                have HIH := Lib.hid hih'
                have HOK := Lib.hid hok
                clear hih hih' hok
                go_wp2_with fail
                revert HBT
                generalize wr.alloc (.cells #[.int .i64 xj.kind, .int .i64 xj.n, .string xj.name, .slice xj.at_.1 xj.args.length xj.at_.2] 27) = wx
                obtain ⟨B9, hB9⟩ : ∃ z, z = wr.heap.size := ⟨_, rfl⟩
                rw [← hB9]
                intro HBT
                have HB9 := Lib.hid hB9
                clear hB9
                obtain ⟨HBX, HTX⟩ := HBT
                have HCB := Lib.hid (fun W (T : Turned (fun k => k = K ∨ k = G) wx W) => cells4 ((T.block B9 (Array.getElem?_eq_some_iff.1 HBX.out).1 (fun e => by have := HB9.out; have := HKL.out; have := HZ.out; have := HSZ.out; omega)).trans HBX.out))
                have HCO := Lib.hid (fun W (T : Turned (fun k => k = K ∨ k = G) wx W) => cells4 ((T.block B (Nat.lt_of_lt_of_le (Array.getElem?_eq_some_iff.1 HOB.out).1 HTX.out.size) (fun e => by have := HKL.out; have := HZ.out; omega)).trans ((HTX.out.block B (Array.getElem?_eq_some_iff.1 HOB.out).1 (fun f => f)).trans HOB.out)))
                clear o0 o1 o2 o3 x0 x1 x2 x3
                refine wp_region_hsW [58, 59, 60, 61, 62, 63, 64, 65, 57, 66, 67, 68, 11] [7, 8, 9, 12] [3, 3, 3, 0, 0, 0, 0, 1, 2, 3, 4, 3, 4, 4] [65, 57, 66, 100012] (fun dd v => (match dd with | 58 => v = .pointer (some ⟨B, 3, none⟩) | 59 => v = .slice (some ⟨G, 0, none⟩) x.args.length x.args.length | 60 => v = .int .i64 j | 61 => v = .pointer (some ⟨K, 0, none⟩) | 62 => v = .agg #[.int .i64 xj.kind, .int .i64 xj.n, .string xj.name, .slice xj.at_.1 xj.args.length xj.at_.2] | 63 => v = .int .i64 d | 64 => v = .int .i64 ((d : Int) + 1) | 67 => v = .bool ok | 68 => v = .pointer (some ⟨G, j * 4, none⟩) | 11 => v = .bool ok | _ => True : Prop)) (MrS p (Tm.img (bt l)) bb K G ok (Tm.img (bt l) xj.bare) (s + 1 + Tm.sizes (Y.take j)) x j W5 wx) (by kernel_rfl) rfl (by kernel_rfl) (by kernel_rfl) (by kernel_rfl) (by kernel_rfl) (fun w h => h) (fun hs w w' h T => MrS.turned0 hs w w' h T) ?hs ?hQ
                case hs =>
                  refine ⟨?s0, ?s1, ?s2, ?s3, ?s4, ?s5, ?s6, ?s7, ?s8, ?s9, ?s10, ?s11, ?s12, ?s13, trivial⟩
                  case s0 =>
                    refine fun hs hle => stepG_free [] [8] (by kernel_rfl) rfl ?_
                    intro ac W hT hI hO
                    have h8 : ac.tmps.getD 8 undef = .pointer (some ⟨B, 0, none⟩) := hO 8 (by simp)
                    show Brings Try.prog (fun v w' => Turned (fun _ => False) W w' ∧ v = .pointer (some ⟨B, 3, none⟩)) _
                    simp only [execOp, Act.eval, h8]
                    go_simp
                    try exact ⟨Turned.refl _ _, rfl⟩
                  case s1 =>
                    refine fun hs hle => stepG_free [58] [] (by kernel_rfl) rfl ?_
                    intro ac W hT hI hO
                    have h58 : ac.tmps.getD 58 undef = .pointer (some ⟨B, 3, none⟩) := hI 58 (by simp)
                    show Brings Try.prog (fun v w' => Turned (fun _ => False) W w' ∧ v = .slice (some ⟨G, 0, none⟩) x.args.length x.args.length) _
                    obtain ⟨q0, q1, q2, q3, _⟩ := HCO.out W (MrS.turned hs W hT)
                    simp only [execOp, Act.eval, h58]
                    go_simp
                    try exact ⟨Turned.refl _ _, rfl⟩
                  case s2 =>
                    refine fun hs hle => stepG_free [] [9] (by kernel_rfl) rfl ?_
                    intro ac W hT hI hO
                    have h9 : ac.tmps.getD 9 undef = .int .i64 j := hO 9 (by simp)
                    show Brings Try.prog (fun v w' => Turned (fun _ => False) W w' ∧ v = .int .i64 j) _
                    simp only [execOp, Act.eval, h9]
                    go_simp
                    try exact ⟨Turned.refl _ _, rfl⟩
                  case s3 =>
                    refine fun hs hle => stepG_free [] [0] (by kernel_rfl) rfl ?_
                    intro ac W hT hI hO
                    have h0 : ac.tmps.getD 0 undef = .pointer (some ⟨K, 0, none⟩) := hO 0 (by simp)
                    show Brings Try.prog (fun v w' => Turned (fun _ => False) W w' ∧ v = .pointer (some ⟨K, 0, none⟩)) _
                    simp only [execOp, Act.eval, h0]
                    go_simp
                    try exact ⟨Turned.refl _ _, rfl⟩
                  case s4 =>
                    refine fun hs hle => stepG_free [] [10] (by kernel_rfl) rfl ?_
                    intro ac W hT hI hO
                    have h10 : ac.tmps.getD 10 undef = .pointer (some ⟨B9, 0, none⟩) := hO 10 (by simp)
                    show Brings Try.prog (fun v w' => Turned (fun _ => False) W w' ∧ v = .agg #[.int .i64 xj.kind, .int .i64 xj.n, .string xj.name, .slice xj.at_.1 xj.args.length xj.at_.2]) _
                    obtain ⟨q0, q1, q2, q3, _⟩ := HCB.out W (MrS.turned hs W hT)
                    simp only [execOp, Act.eval, h10]
                    go_simp
                    try exact ⟨Turned.refl _ _, rfl⟩
                  case s5 =>
                    refine fun hs hle => stepG_free [] [2] (by kernel_rfl) rfl ?_
                    intro ac W hT hI hO
                    have h2 : ac.tmps.getD 2 undef = .int .i64 d := hO 2 (by simp)
                    show Brings Try.prog (fun v w' => Turned (fun _ => False) W w' ∧ v = .int .i64 d) _
                    simp only [execOp, Act.eval, h2]
                    go_simp
                    try exact ⟨Turned.refl _ _, rfl⟩
                  case s6 =>
                    refine fun hs hle => stepG_free [63] [] (by kernel_rfl) rfl ?_
                    intro ac W hT hI hO
                    have h63 : ac.tmps.getD 63 undef = .int .i64 d := hI 63 (by simp)
                    show Brings Try.prog (fun v w' => Turned (fun _ => False) W w' ∧ v = .int .i64 ((d : Int) + 1)) _
                    simp only [execOp, Act.eval, h63]
                    go_simp
                    try rw [wrapI (by omega) (by omega)]
                    try exact ⟨Turned.refl _ _, rfl⟩
                  case s7 =>
                    refine fun hs hlen => stepG_free [61, 62, 64] [] (by kernel_rfl) rfl ?_
                    intro ac W hT hI hO
                    have h61 : ac.tmps.getD 61 undef = .pointer (some ⟨K, 0, none⟩) := hI 61 (by simp)
                    have h62 : ac.tmps.getD 62 undef = .agg #[.int .i64 xj.kind, .int .i64 xj.n, .string xj.name, .slice xj.at_.1 xj.args.length xj.at_.2] := hI 62 (by simp)
                    have h64 : ac.tmps.getD 64 undef = .int .i64 ((d : Int) + 1) := hI 64 (by simp)
                    obtain rfl : hs = [] := List.eq_nil_of_length_eq_zero hlen
                    replace hT : Turned (fun _ => False) wx W := hT
                    show Brings Try.prog (fun v w' => MrS p (Tm.img (bt l)) bb K G ok (Tm.img (bt l) xj.bare) (s + 1 + Tm.sizes (Y.take j)) x j W5 wx [v] w') _
                    simp only [execOp, Act.eval, h61, h62, h64]
                    go_simp
                    show Calls Try.prog 147 _ W _
                    (with_reducible refine (HIH.out W (HTX.out.trans hT)).mono ?_)
                    rintro e w' ⟨u, rfl, k1, k2, k3, k4⟩
                    exact ⟨_, rfl, u, by rw [LT.val_eq], k1.mono (fun k _ hk => hk.elim .inl (fun hk => .inr (Nat.le_trans hT.size hk))), k2, k3, (hT.mono (fun _ _ f => f.elim)).trans k4⟩
                  case s8 =>
                    refine fun hs hlen => stepG_free [65] [] (by kernel_rfl) rfl ?_
                    intro ac W hT hI hO
                    have h65 : hs[0]? = some (ac.tmps.getD 65 undef) := hI 65 (by simp)
                    obtain ⟨a, rfl⟩ := List.length_eq_one_iff.1 hlen
                    obtain ⟨u, ea, hC⟩ := hT
                    have e65 : a = ac.tmps.getD 65 undef := by simpa using h65
                    rw [e65] at ea
                    show Brings Try.prog (fun v w' => MrS p (Tm.img (bt l)) bb K G ok (Tm.img (bt l) xj.bare) (s + 1 + Tm.sizes (Y.take j)) x j W5 wx [a, v] w') _
                    simp only [execOp, Act.eval, ea]
                    go_simp
                    exact ⟨u, rfl, hC⟩
                  case s9 =>
                    refine fun hs hlen => stepG_free [57] [] (by kernel_rfl) rfl ?_
                    intro ac W hT hI hO
                    have h57 : hs[1]? = some (ac.tmps.getD 57 undef) := hI 57 (by simp)
                    obtain ⟨a, b, rfl⟩ := list2' hlen
                    obtain ⟨u, ea, hC⟩ := hT
                    have e57 : b = ac.tmps.getD 57 undef := by simpa using h57
                    show Brings Try.prog (fun v w' => MrS p (Tm.img (bt l)) bb K G ok (Tm.img (bt l) xj.bare) (s + 1 + Tm.sizes (Y.take j)) x j W5 wx [a, b, v] w') _
                    rw [e57] at ea
                    simp only [execOp, Act.eval, ea]
                    go_simp
                    exact ⟨u, by first | rfl | (rw [e57]; exact ea), rfl, hC⟩
                  case s10 =>
                    refine fun hs hle => stepG_free [57] [] (by kernel_rfl) rfl ?_
                    intro ac W hT hI hO
                    have h57 : hs[1]? = some (ac.tmps.getD 57 undef) := hI 57 (by simp)
                    show Brings Try.prog (fun v w' => Turned (fun _ => False) W w' ∧ v = .bool ok) _
                    obtain ⟨u, eu⟩ := MrS.tup hs W _ hT h57
                    simp only [execOp, Act.eval, eu]
                    go_simp
                    try exact ⟨Turned.refl _ _, rfl⟩
                  case s11 =>
                    refine fun hs hle => stepG_free [59, 60] [] (by kernel_rfl) rfl ?_
                    intro ac W hT hI hO
                    have h59 : ac.tmps.getD 59 undef = .slice (some ⟨G, 0, none⟩) x.args.length x.args.length := hI 59 (by simp)
                    have h60 : ac.tmps.getD 60 undef = .int .i64 j := hI 60 (by simp)
                    show Brings Try.prog (fun v w' => Turned (fun _ => False) W w' ∧ v = .pointer (some ⟨G, j * 4, none⟩)) _
                    simp only [execOp, Act.eval, h59, h60]
                    go_simp
                    try exact ⟨Turned.refl _ _, rfl⟩
                  case s12 =>
                    refine fun hs hlen => stepG_free [68, 66] [] (by kernel_rfl) rfl ?_
                    intro ac W hT hI hO
                    have h68 : ac.tmps.getD 68 undef = .pointer (some ⟨G, j * 4, none⟩) := hI 68 (by simp)
                    have h66 : hs[2]? = some (ac.tmps.getD 66 undef) := hI 66 (by simp)
                    obtain ⟨a, b, c, rfl⟩ := list3' hlen
                    obtain ⟨u, eb, ec, hC⟩ := hT
                    have e66 : c = ac.tmps.getD 66 undef := by simpa using h66
                    show Brings Try.prog (fun v w' => MrS p (Tm.img (bt l)) bb K G ok (Tm.img (bt l) xj.bare) (s + 1 + Tm.sizes (Y.take j)) x j W5 wx [a, b, c, v] w') _
                    rw [e66] at ec
                    have hrw := (HMI.out.row.turned0 HTX.out).turned hC.2.2.2 (fun k hk e => by simp [Value.ownBlock] at hk; have := HZ.out; have := HKL.out; omega)
                    have f0 := hrw.free rfl (j * 4)
                    have f1 := hrw.free rfl (j * 4 + 1)
                    have f2 := hrw.free rfl (j * 4 + 2)
                    have f3 := hrw.free rfl (j * 4 + 3)
                    obtain ⟨z0, g0⟩ := row_some hrw (j * 4) (by omega)
                    obtain ⟨z1, g1⟩ := row_some hrw (j * 4 + 1) (by omega)
                    obtain ⟨z2, g2⟩ := row_some hrw (j * 4 + 2) (by omega)
                    obtain ⟨z3, g3⟩ := row_some hrw (j * 4 + 3) (by omega)
                    have HRS := Lib.hid (mr_store (w3 := W5) HMI.out HTX.out (fun k hk => ⟨by have := (HH.out.sep k hk).1; have := HZ.out; omega, fun e => HAP.out.2.2 (e ▸ hk)⟩) (by have := HZ.out; have := HKL.out; omega) (by have := HZ.out; have := HSZ.out; omega) HXX.out rfl hC)
                    simp only [execOp, Act.eval, h68, ec]
                    go_simp
                    exact ⟨⟨u, by first | rfl | exact eb⟩, HRS.out⟩
                  case s13 =>
                    refine fun hs hle => stepG_free [67] [] (by kernel_rfl) rfl ?_
                    intro ac W hT hI hO
                    have h67 : ac.tmps.getD 67 undef = .bool ok := hI 67 (by simp)
                    show Brings Try.prog (fun v w' => Turned (fun _ => False) W w' ∧ v = .bool ok) _
                    simp only [execOp, Act.eval, h67]
                    go_simp
                    try exact ⟨Turned.refl _ _, rfl⟩
                case hQ =>
                  intro hs4 vs4 W9 hlen hR hV
                  have q11 : vs4 11 = .bool ok := hV 11 (by simp)
                  simp only [List.foldl_cons, List.foldl_nil, List.setIfInBounds_toArray, List.set_cons_zero, List.set_cons_succ, q11]
                  obtain ⟨e1, e2, e3, e4, rfl⟩ : ∃ a b c d, hs4 = [a, b, c, d] := list4' hlen
                  have HRQ := Lib.hid (show RowQ p (Tm.img (bt l)) bb K G ok (Tm.img (bt l) xj.bare) (s + 1 + Tm.sizes (Y.take j)) x j W5 wx W9 from hR.2)
                  clear hR hV q11 hlen
                  cases ok with
                  | false =>
                    have HNO : Hid (Tm.makeOk s d (Tm.img (bt l) t.bare) = false) := Tm.makeOk_no (i := j) (x := Tm.img (bt l) xj.bare) (by rw [HYI.out]; exact HYJ.out) (by rw [HYI.out]; exact HOK.out.symm)
                    have hz9 := (HRQ.out.2.1.block (w.heap.size + 1) (by have := (Array.getElem?_eq_some_iff.1 HM5.out.n1).1; have := HSZ.out; have := HTX.out.size; omega) (fun e => by have := HKL.out; have := HZ.out; omega)).trans ((HTX.out.block _ (by have := (Array.getElem?_eq_some_iff.1 HM5.out.n1).1; have := HSZ.out; omega) (fun f => f)).trans ((HMI.out.turned.block _ (Array.getElem?_eq_some_iff.1 HM5.out.n1).1 (fun e => by have := HKL.out; have := HZ.out; omega)).trans HM5.out.n1))
                    obtain ⟨z0, z1, z2, z3, f0, f1, f2, f3⟩ := cells4 hz9
                    have HZ9 := Lib.hid hz9
                    clear hz9
                    go_wp2_with fail
                    have hset := set4 (a' := .int .i64 0) (b' := .int .i64 0) (c' := .string ⟨#[]⟩) (d' := .slice none 0 0) HZ9.out
                    have Tq := fun W => turned_store4 W (w.heap.size + 1) (.int .i64 0) (.int .i64 0) (.string ⟨#[]⟩) (.slice none 0 0)
                    obtain ⟨⟨s', hk9, _⟩, ht9, _⟩ := HRQ.out
                    refine bodyPost_ret (results_cell_tmp1 Try.results147 _ _ (w.heap.size + 1) 27 _ (0, 0) _ rfl hset Try.underlying27 rfl (by kernel_rfl)) rfl (MakeQ.no HNO.out (((Tq _).block K (Array.getElem?_eq_some_iff.1 hk9).1 (by omega)).trans hk9) ?_)
                    refine ((((HM5.out.turned.step HMI.out.turned (fun i hi e => ?_)).trans (HTX.out.mono (fun _ _ f => f.elim))).step ht9 (fun i hi e => ?_))).step (Tq _) (fun i hi e => by omega)
                    · rcases e with e | e
                      · have := HZ.out; omega
                      · exact e
                    · rcases e with e | e
                      · exact e
                      · have := HZ.out; omega
                  | true =>
                    obtain ⟨⟨s', hk9, hs9⟩, ht9, hm9⟩ := HRQ.out
                    have hs9' := hs9 rfl
                    subst hs9'
                    have HK9 := Lib.hid hk9
                    have HT9 := Lib.hid ht9
                    have HM9 := Lib.hid (hm9 rfl)
                    clear hk9 ht9 hm9 hs9
                    go_wp2_with fail
                    have hst := Tm.sizes_take HYJ.out
                    obtain ⟨h1, h2⟩ := Tm.makeOk_iff.1 HOK.out.symm
                    obtain ⟨us', hI9⟩ := HM9.out
                    have HST := Lib.hid hst
                    have HI9 := Lib.hid hI9
                    have H12 := Lib.hid (And.intro h1 h2)
                    clear hst hI9 h1 h2
                    go_roundg (gk - 1)
                    case measure => have := HG.out; omega
                    case rel =>
                      refine ⟨j + 1, us', show _ = _ by have := HG.out; omega, by omega, by go_num, HI9, ?_, ?_, ?_⟩
                      · show _ = _
                        rw [HST.out]
                        have := HK9.out
                        rw [show s + 1 + (Tm.sizes (Y.take j) + (Tm.img (bt l) xj.bare).size) = s + 1 + Tm.sizes (Y.take j) + (Tm.img (bt l) xj.bare).size from by omega]
                        exact this
                      · show _ ≤ _
                        rw [HST.out]; have := H12.out.1; omega
                      · show ∀ y ∈ _, _
                        intro y hy
                        rw [List.take_add_one, HYJ.out] at hy
                        rcases List.mem_append.1 hy with hy | hy
                        · exact HDJ.out y hy
                        · simp at hy; rw [hy]; have := H12.out.2; omega
              · obtain rfl : j = x.args.length := by omega
                have hyl : Y.length = x.args.length := by rw [HY.out, List.length_map]
                have hk0 := HKJ.out
                have hs0 := HSJ.out
                have hd0 := HDJ.out
                rw [← hyl, List.take_length] at hk0 hs0 hd0
                have hmk : Tm.makeOk s d (Tm.img (bt l) t.bare) = true := Tm.makeOk_yes hA hD (by rw [HYI.out]; exact hs0) (by rw [HYI.out]; exact hd0)
                have hms : (Tm.img (bt l) t.bare).size = 1 + Tm.sizes Y := by rw [HYI.out, Tm.size_eq]; rfl
                have HK0 := Lib.hid hk0
                have HMK := Lib.hid (And.intro hmk hms)
                have hz9 := (HMI.out.turned.block _ (Array.getElem?_eq_some_iff.1 HM5.out.n1).1 (fun e => by have := HKL.out; have := HZ.out; omega)).trans HM5.out.n1
                obtain ⟨z0, z1, z2, z3, f0, f1, f2, f3⟩ := cells4 hz9
                have HZ9 := Lib.hid hz9
                clear hz9 hyl hk0 hs0 hd0 hmk hms
                go_wp2_with fail
                have hset := set4 (a' := .int .i64 x.kind) (b' := .int .i64 0) (c' := .string x.name) (d' := .slice (some ⟨G, 0, none⟩) x.args.length x.args.length) HZ9.out
                have Tq := fun W => turned_store4 W (w.heap.size + 1) (.int .i64 x.kind) (.int .i64 0) (.string x.name) (.slice (some ⟨G, 0, none⟩) x.args.length x.args.length)
                refine bodyPost_ret (results_cell_tmp1 Try.results147 _ _ (w.heap.size + 1) 27 _ (0, 0) _ rfl hset Try.underlying27 rfl (by kernel_rfl)) rfl ?_
                have hTT := (HM5.out.turned.step HMI.out.turned (fun i hi e => by
                  rcases e with e | e
                  · have := HZ.out; omega
                  · exact e)).step (Tq _) (fun i hi e => by omega)
                have hrow := HMI.out.row.turned (Tq _) (fun k hk e => by simp [Value.ownBlock] at hk; have := HZ.out; omega)
                have hins := HMI.out.ins.turned (q := fun k => p k ∨ w.heap.size ≤ k) (Tq _) (fun k _ hk e => by
                  rcases hk with hk | hk
                  · have := (HH.out.sep k hk).1; omega
                  · have := HZ.out; omega) (fun k _ hk => hk.elim .inl (fun hk => .inr (by have := HZ.out; omega)))
                obtain ⟨e1, e2⟩ := LT.Sl.of_row (p := fun k => p k ∨ w.heap.size ≤ k) hrow (fun k hk => .inr (by simp [Value.ownBlock] at hk; have := HZ.out; omega)) hins
                have hUL : us.length = x.args.length := HMI.out.len
                have hyes := MakeQ.yes (p := p) (bb := bb) (K := K) (l := l) (t := t) (u := .mk x.kind 0 x.name (some ⟨G, 0, none⟩, x.args.length) us) (s := s) (d := d) (w := w) HMK.out.1 ?_ (e2.in_ HM5.out.inn.kind (i64_lit _ (by omega)) HM5.out.inn.name) (((Tq _).block K (Array.getElem?_eq_some_iff.1 HK0.out).1 (by omega)).trans HK0.out) (by rw [HMK.out.2]; omega) hTT
                · simp only [Tm.kind, Tm.n, Tm.name, Tm.args, LT.at_] at hyes
                  rw [hUL] at hyes
                  exact hyes
                · have hbr := HMI.out.bares
                  rw [List.take_length, ← hUL, List.take_length] at hbr
                  rw [HYI.out, Tm.bare, Tm.bares_eq, hbr, HY.out]
      · have d2 : decide (64 < (d : Int)) = true := decide_eq_true (by omega)
        have hno : Tm.makeOk s d (Tm.img (bt l) t.bare) = false := by
          rw [Bool.eq_false_iff, ne_eq, Tm.makeOk_iff]
          have := Tm.depth_pos (Tm.img (bt l) t.bare)
          omega
        go_enter Try.func147, Try.ntmps147
        go_wp2_with fail
        rw [← HW2.out]
        obtain ⟨e0, e1, _⟩ := rec2b (HKP.out w2 (Turned.refl _ _))
        obtain ⟨y0, y1, y2, y3, _⟩ := cells4 (HCP.out w2 (Turned.refl _ _)).1
        refine region_tail 5 (by kernel_rfl) (by kernel_rfl) ?_
        simp only [List.take_succ_cons, List.take_zero, List.drop_succ_cons, List.drop_zero]
        repeat still_step
        refine wpStill_nil ?_
        go_wp2_with (go_at_call 90; (with_reducible refine (HWK.out _ (Turned.refl _ _).drew).mono ?_); rintro e w3 ⟨x, rfl, hxin, hxb, T3⟩; rw [LT.val_eq x]; have S3 := (Turned.refl _ w2).drew.trans T3; have hq3 := HKP.out _ S3; obtain ⟨hb3, hz3⟩ := HCP.out _ S3; obtain ⟨k0, k1, kf0, kf1⟩ := rec2b hq3; obtain ⟨c0, c1, c2, c3, f0, f1, f2, f3⟩ := cells4 hb3; obtain ⟨z0, z1, z2, z3, g0, g1, g2, g3⟩ := cells4 hz3; have HAW := Lib.hid (afterWalk hb3 hq3 hz3 HKL.out (.int .i64 x.kind) (.int .i64 x.n) (.string x.name) (.slice x.at_.1 x.args.length x.at_.2) (.int .i64 ((s : Int) + 1))); have HXI := Lib.hid hxin; have HXB := Lib.hid hxb; have HS3 := Lib.hid S3; clear hq3 hb3 hz3 hxin hxb S3 T3)
        obtain ⟨A1, A2, A3, A4⟩ := HAW.out
        have hset := set4 (a' := .int .i64 0) (b' := .int .i64 0) (c' := .string ⟨#[]⟩) (d' := .slice none 0 0) A3
        have Tq := fun W => turned_store4 W (w.heap.size + 1) (.int .i64 0) (.int .i64 0) (.string ⟨#[]⟩) (.slice none 0 0)
        refine bodyPost_ret (results_cell_tmp1 Try.results147 _ _ (w.heap.size + 1) 27 _ (0, 0) _ rfl hset Try.underlying27 rfl (by kernel_rfl)) rfl (MakeQ.no hno (((Tq _).block K (Array.getElem?_eq_some_iff.1 A2).1 (by omega)).trans A2) (make_turned HT2.out HS3.out A4 (Tq _)))
    · have d1 : decide (2000 < (s : Int) + 1) = true := decide_eq_true (by omega)
      have hno : Tm.makeOk s d (Tm.img (bt l) t.bare) = false := by
        rw [Bool.eq_false_iff, ne_eq, Tm.makeOk_iff]
        have := Tm.size_pos (Tm.img (bt l) t.bare)
        omega
      go_enter Try.func147, Try.ntmps147
      go_wp2_with fail
      rw [← HW2.out]
      obtain ⟨e0, e1, _⟩ := rec2b (HKP.out w2 (Turned.refl _ _))
      obtain ⟨y0, y1, y2, y3, _⟩ := cells4 (HCP.out w2 (Turned.refl _ _)).1
      refine region_tail 5 (by kernel_rfl) (by kernel_rfl) ?_
      simp only [List.take_succ_cons, List.take_zero, List.drop_succ_cons, List.drop_zero]
      repeat still_step
      refine wpStill_nil ?_
      go_wp2_with (go_at_call 90; (with_reducible refine (HWK.out _ (Turned.refl _ _).drew).mono ?_); rintro e w3 ⟨x, rfl, hxin, hxb, T3⟩; rw [LT.val_eq x]; have S3 := (Turned.refl _ w2).drew.trans T3; have hq3 := HKP.out _ S3; obtain ⟨hb3, hz3⟩ := HCP.out _ S3; obtain ⟨k0, k1, kf0, kf1⟩ := rec2b hq3; obtain ⟨c0, c1, c2, c3, f0, f1, f2, f3⟩ := cells4 hb3; obtain ⟨z0, z1, z2, z3, g0, g1, g2, g3⟩ := cells4 hz3; have HAW := Lib.hid (afterWalk hb3 hq3 hz3 HKL.out (.int .i64 x.kind) (.int .i64 x.n) (.string x.name) (.slice x.at_.1 x.args.length x.at_.2) (.int .i64 ((s : Int) + 1))); have HXI := Lib.hid hxin; have HXB := Lib.hid hxb; have HS3 := Lib.hid S3; clear hq3 hb3 hz3 hxin hxb S3 T3)
      obtain ⟨A1, A2, A3, A4⟩ := HAW.out
      have hset := set4 (a' := .int .i64 0) (b' := .int .i64 0) (c' := .string ⟨#[]⟩) (d' := .slice none 0 0) A3
      have Tq := fun W => turned_store4 W (w.heap.size + 1) (.int .i64 0) (.int .i64 0) (.string ⟨#[]⟩) (.slice none 0 0)
      refine bodyPost_ret (results_cell_tmp1 Try.results147 _ _ (w.heap.size + 1) 27 _ (0, 0) _ rfl hset Try.underlying27 rfl (by kernel_rfl)) rfl (MakeQ.no hno (((Tq _).block K (Array.getElem?_eq_some_iff.1 A2).1 (by omega)).trans A2) (make_turned HT2.out HS3.out A4 (Tq _)))
end Go.Proofs.Ytoihjobdfjajfaa
namespace Go.Proofs.Ytoihjobdfjajfaa
set_option linter.unusedVariables false
set_option linter.unusedSimpArgs false
open Go.RowKit Go.Maps
theorem brings_append_any {P : Program} {w : World} {o : Oper} {a : Act} {F : Value → World → Prop} (s x : Operand) (t : TypeId)
    (ho : o.op = .call { callee := .builtin .append, args := #[s, x], argTypes := #[t, t] })
    (e : TypeId) (i : TypeInfo) (z : Value) (size bytes : Nat) (ht : P.underlying t = some (.slice e)) (hi : P.info? e = some i) (hz : i.zero = some z)
    (hsize : i.size = size) (hby : i.bytes = bytes) (hzs : z.cells.size = size) (hsz : 0 < size)
    (v : Value) (n : Nat) (xs : List Value) (hs : a.eval s = v) (hown : Row w e size v n xs)
    (ao : Option Addr) (m c : Nat) (news : List Value) (hx : a.eval x = .slice ao m c) (hnone : ao = none → m = 0 ∧ c = 0) (hl : news.length = m * size) (hnews : ∀ ad, ao = some ad → ∀ j u, news[j]? = some u → w.cell? (ad.add j) = some u) (h1 : ∀ u ∈ news, u.oneCell' = true)
    (h63 : n + m ≤ maxLen) (hbytes : (n + m) * bytes ≤ 140737488355328)
    (h : ∀ v' w', Row w' e size v' (n + m) (xs ++ news) → Turned (fun k => v.ownBlock = some k) w w' → (v'.ownBlock = v.ownBlock ∨ v'.ownBlock = some w.heap.size) → F v' w') : Brings P F ((execOp a.eval o).run P w) := by
  obtain ⟨v', w', hr, h2, h3, h4⟩ := run_append_any (P := P) w t o.type e i z size bytes ht hi hz hsize hby hzs hsz v n xs hown ao m c news hnone hl hnews h1 h63 hbytes
  unfold execOp
  simp only [ho, resolve, invoke, builtin, Sem.run_bind, Sem.run_pure, Result.andThen_ok, List.map_toArray, List.map_cons, List.map_nil, hs, hx, hr]
  exact h v' w' h2 h3 h4
def AppS (v0 : Value) (n k : Nat) (xs news : List Value) (wx : World) : List Value → World → Prop
  | [], W => Turned (fun _ => False) wx W
  | [v], W => Row W 27 4 v (n + k) (xs ++ news) ∧ Turned (fun q => v0.ownBlock = some q) wx W ∧ (v.ownBlock = v0.ownBlock ∨ ∀ q, v.ownBlock = some q → wx.heap.size ≤ q)
  | _, _ => False
theorem AppS.turned0 {v0 : Value} {n k : Nat} {xs news : List Value} {wx : World} : ∀ (hs : List Value) (w w' : World), AppS v0 n k xs news wx hs w → Turned (fun _ => False) w w' → AppS v0 n k xs news wx hs w'
  | [], _, _, h, ht => Turned.trans h ht
  | [_], _, _, h, ht => ⟨h.1.turned0 ht, h.2.1.trans (ht.mono (fun _ _ f => f.elim)), h.2.2⟩
  | _ :: _ :: _, _, _, h, _ => h.elim
theorem AppS.nil {v0 : Value} {n k : Nat} {xs news : List Value} {wx W : World} {hs : List Value} (hl : hs.length ≤ 0) (h : AppS v0 n k xs news wx hs W) : Turned (fun _ => False) wx W := by
  match hs, hl, h with
  | [], _, h => exact h
theorem lies_any {p : Nat → Prop} {w : World} {a : Option Addr} {l : List LT} (h : LT.Lies p w a l) (ad : Addr) (ha : a = some ad) (j : Nat) (u : Value) (hu : (l.flatMap LT.cells)[j]? = some u) : w.cell? (ad.add j) = some u := by
  have hl : 0 < l.length := by
    have := (List.getElem?_eq_some_iff.1 hu).1
    rw [LT.flat_length] at this; omega
  obtain ⟨b, o, e, _, hc⟩ := h hl
  rw [ha] at e
  have e2 := Option.some.inj e
  subst e2
  rw [Addr.add_lit]
  exact hc j u hu
theorem had_yes {w : World} {mb n : Nat} {had : List Int} {k : Int} (h : IMap Try.prog 2 w mb n (fun i => if i ∈ had then some (.bool true) else none)) (hk : k ∈ had) (h64 : I64 k) : (Instr.lookup 140 (.map (some mb)) (.int .i64 k) false).run Try.prog w = .ok (.bool true) w := by
  have := h.look law2 Try.underlying140 (zero4 _) (key2 h64)
  simp only [if_pos hk, Option.getD_some] at this
  exact this
theorem had_no {w : World} {mb n : Nat} {had : List Int} {k : Int} (h : IMap Try.prog 2 w mb n (fun i => if i ∈ had then some (.bool true) else none)) (hk : k ∉ had) (h64 : I64 k) : (Instr.lookup 140 (.map (some mb)) (.int .i64 k) false).run Try.prog w = .ok (.bool false) w := by
  have := h.look law2 Try.underlying140 (zero4 _) (key2 h64)
  simp only [if_neg hk, Option.getD_none] at this
  exact this
theorem BI.read {p : Nat → Prop} {bb sb m mb : Nat} {g cl : Nat} {tv : Value} {l : TL} {w w' : World} {n : Int} (h : BI p bb sb (.slice (some ⟨g, 0, none⟩) m cl) tv m l w) (hmb : ¬ ownK bb sb (.slice (some ⟨g, 0, none⟩) m cl) tv mb ∧ (∀ b ∈ l, mb ≠ b.2.1) ∧ ¬ p mb) (T : Turned (· = mb) w w') (h0 : 0 ≤ n) (h1 : n < (m : Int)) :
    w'.cell? ⟨bb, 0, none⟩ = some (.slice (some ⟨g, 0, none⟩) m cl) ∧ w'.cell? ⟨g, n.toNat, none⟩ = some (ptrV (lookL l n)) ∧ BI p bb sb (.slice (some ⟨g, 0, none⟩) m cl) tv m l w' := by
  have hb := h.turned T (fun k _ e => by rw [show k = mb from e]; exact hmb)
  obtain ⟨c0, _⟩ := rec2b hb.b
  refine ⟨c0, ?_, hb⟩
  have := hb.row.cells rfl n.toNat _ (ptrs_at (by omega))
  rw [Int.toNat_of_nonneg h0] at this
  exact this
theorem own_new {g n c : Nat} {w W : World} (hg : g = W.heap.size) (hW : w.heap.size ≤ W.heap.size) : ∀ k, (Value.slice (some ⟨g, 0, none⟩) n c).ownBlock = some k → w.heap.size ≤ k := by
  intro k hk
  simp [Value.ownBlock] at hk
  omega
def WithR (p : Nat → Prop) (mb m : Nat) (l : TL) (n : Int) (t : LT) (w0 : World) (k : Nat) (v : Value) (wr : World) : Prop :=
  ∃ (todo : List LT) (had : List Int), Hid (Tm.sizes todo + Tm.gasT (bt l) had = k) ∧ k ≤ 131074000 ∧ Hid (SeekI p mb m l n t w0 todo had v wr)
set_option maxRecDepth 100000 in
set_option maxHeartbeats 6400000 in
theorem within145 {p : Nat → Prop} {bb sb m : Nat} {lv tv : Value} {l : TL} {w : World} {mb : Nat} {t : LT} {n : Int} (h : BI p bb sb lv tv m l w) (ht : t.In p w) (hg : Tm.ownB m t = true) (hn : n ∉ Tm.dom (bt l)) (hm : IMap Try.prog 2 w mb 0 (fun _ => none)) (hmb : ¬ ownK bb sb lv tv mb ∧ (∀ b ∈ l, mb ≠ b.2.1) ∧ ¬ p mb) :
    Calls Try.prog 145 #[.pointer (some ⟨bb, 0, none⟩), .int .i64 n, t.val, .map (some mb)] w fun e w' => e = .returned (.bool (decide (n ∈ (Tm.img (bt l) t.bare).vars))) ∧ Turned (· = mb) w w' := by
  obtain ⟨i0, hi0, hz0, hz1, hz2⟩ := info_parts infoT
  have hgood : goodB t = true := by unfold Tm.ownB at hg; exact (Bool.and_eq_true_iff.1 hg).1
  have hgiv : given m t := by
    have h1 := Tm.ownB_iff.1 (show Tm.ownB m t.bare = true by unfold Tm.ownB at hg ⊢; rw [goodB_bare, Tm.vars_bare]; exact hg)
    exact ⟨Tm.good_ones' h1.1, h1.2⟩
  have hsz : t.size ≤ 2000 := by
    unfold goodB at hgood
    simp only [Bool.and_eq_true, decide_eq_true_eq] at hgood
    exact hgood.1
  have hgas : Tm.gasT (bt l) [] ≤ 2000 * 65536 := by
    have h1 := Tm.gasT_le h.ok []
    have h2 := h.length
    have h3 := h.most
    rw [bt_length] at h1
    omega
  have hmlt := hm.lt
  have h2 := twoBox w (.cells #[.int .i64 t.kind, .int .i64 t.n, .string t.name, .slice t.at_.1 t.args.length t.at_.2] 27) (.cells #[.int .i64 t.kind, .int .i64 t.n, .string t.name, .slice t.at_.1 t.args.length t.at_.2] 27)
  obtain ⟨RB, hRB⟩ : ∃ z, z = decide (n ∈ (Tm.img (bt l) t.bare).vars) := ⟨_, rfl⟩
  rw [← hRB]
  have HRB := Lib.hid hRB
  have hst : Hid (SeekI p mb m l n t w [t] [] (.slice (some ⟨w.heap.size + 1, 0, none⟩) 1 1) ((w.alloc (.cells #[.int .i64 t.kind, .int .i64 t.n, .string t.name, .slice t.at_.1 t.args.length t.at_.2] 27)).alloc (.cells #[.int .i64 t.kind, .int .i64 t.n, .string t.name, .slice t.at_.1 t.args.length t.at_.2] 27))) := by
    refine ⟨?_, fun g e => by simp [Value.ownBlock] at e; omega, hm.turned h2.1 (fun f => f), Tm.Seek.start (given_leafy hgiv), fun y hy => ?_, List.nodup_nil, fun k hk => (by cases hk), h2.1.mono (fun _ _ f => f.elim), hmlt⟩
    · have := Row.made (w.alloc (.cells #[.int .i64 t.kind, .int .i64 t.n, .string t.name, .slice t.at_.1 t.args.length t.at_.2] 27)) 27 4 #[.int .i64 t.kind, .int .i64 t.n, .string t.name, .slice t.at_.1 t.args.length t.at_.2] 1 rfl (by unfold maxLen; omega)
      simpa [LT.cells_eq] using this
    · rw [List.mem_singleton] at hy
      rw [hy]
      exact ⟨ht, hgiv⟩
  have H := Lib.hid h
  have HN := Lib.hid hn
  have HMB := Lib.hid hmb
  have HSZ : Hid (t.size + Tm.gasT (bt l) [] ≤ 131074000) := show _ ≤ _ by omega
  clear h ht hg hn hm hmb hgood hgiv hsz hgas hmlt h2 hRB
  rw [LT.val_eq]
  go_enter Try.func145, Try.ntmps145
  go_wp2_with fail
  revert hst
  generalize ((w.alloc (.cells #[.int .i64 t.kind, .int .i64 t.n, .string t.name, .slice t.at_.1 t.args.length t.at_.2] 27)).alloc (.cells #[.int .i64 t.kind, .int .i64 t.n, .string t.name, .slice t.at_.1 t.args.length t.at_.2] 27)) = w1
  intro hst
  go_loopg [9] (t.size + Tm.gasT (bt l) []) (fun k v wr => WithR p mb m l n t w k v wr)
  case atStart => exact ⟨[t], [], show _ = _ by simp only [Tm.sizes]; omega, HSZ.out, hst⟩
  case round =>
    obtain ⟨todo, had, HG, hk0, HI⟩ := hrel
    obtain ⟨wo, rfl⟩ : ∃ wo : World, wo = wr := ⟨_, rfl⟩
    have hroom := HI.out.room
    rcases List.eq_nil_or_concat todo with rfl | ⟨ys, x, rfl⟩
    · obtain ⟨a, cap, rfl⟩ := HI.out.row.shape
      have hres : RB = false := by
        rw [HRB.out, decide_eq_false]
        have hs := HI.out.seek
        exact fun c => hs.stop ((Tm.vars_mem n).1 c)
      clear hroom
      go_wp2_with fail
      go_ret
      rw [hres]
      exact ⟨rfl, HI.out.turned⟩
    · rw [List.concat_eq_append] at HG HI hroom
      obtain ⟨g, cap, rfl⟩ := HI.out.row.shape_pos (by simp)
      obtain ⟨hn1, hrow, hc1, hc2⟩ := HI.out.pop
      obtain ⟨c0, c1, c2, c3⟩ := HI.out.top
      obtain ⟨hxin, hxg⟩ := HI.out.mem x (by simp)
      have hys : ys.length ≤ 131074000 := by have := HG.out; rw [List.length_append, List.length_singleton] at hroom; omega
      have hc3 : cap ≤ 9223372036854775807 := by unfold maxLen at hc2; exact hc2
      have hal : x.args.length ≤ 8 := given_arity hxg
      have hlen := hxin.len
      have hac : x.at_.2 ≤ 9223372036854775807 := by have := hlen.2.1; unfold maxLen at this; exact this
      have hgw := hrow.lt g rfl
      have HWO : Hid (w.heap.size ≤ wo.heap.size) := HI.out.turned.size
      have TX : Turned (fun _ => False) wo (wo.alloc (.cells #[.int .i64 x.kind, .int .i64 x.n, .string x.name, .slice x.at_.1 x.args.length x.at_.2] 27)) := (Turned.refl _ wo).alloc _
      have hbox := heap_alloc_new wo (.cells #[.int .i64 x.kind, .int .i64 x.n, .string x.name, .slice x.at_.1 x.args.length x.at_.2] 27)
      have HIX : Hid (SeekI p mb m l n t w (ys ++ [x]) had (.slice (some ⟨g, 0, none⟩) (ys.length + 1) cap) (wo.alloc (.cells #[.int .i64 x.kind, .int .i64 x.n, .string x.name, .slice x.at_.1 x.args.length x.at_.2] 27))) := by
        have := HI.out.turned0 TX
        rw [hn1] at this
        exact this
      have HRX := Lib.hid (hrow.turned0 TX)
      have HLX := Lib.hid (((LT.In.turned HI.out.turned (fun k hk hp e => by have := HMB.out.2.2; rw [e] at hp; exact this hp) (fun _ _ q => q) _ hxin).turned0 TX).lies)
      have HGN : Hid (g ≠ wo.heap.size) := by show _ ≠ _; omega
      rw [List.length_append, List.length_singleton]
      have HXG := Lib.hid hxg
      have HLN := Lib.hid hlen
      clear hrow hxin hxg hroom hlen
      have HIQ := And.intro HIX (And.intro HRX (And.intro HLX (Lib.hid hbox)))
      clear HIX HRX HLX hbox HI TX
      by_cases hk : x.kind = 0
      · have hkx : (x.kind != 0) = false := by simp [hk]
        have hv := given_var HXG.out hk
        have HARG := Lib.hid hv.2.2.2.1
        obtain ⟨gl, cl, hle⟩ := H.out.row.shape_pos (by omega)
        subst hle
        have hmx := H.out.row.max
        have h64 : Hid (I64 x.n) := by show I64 x.n; unfold I64; omega
        have hv0 := hv.1
        have hv1 := hv.2.1
        have hkey := key2 h64.out
        have HV := Lib.hid hv.2.2.2.2
        clear hv
        have HK := Lib.hid hk
        clear hk
        have hm65 := H.out.most
        have hadl := HIQ.1.out.size H.out.ok
        by_cases hm : x.n ∈ had
        · have HM := Lib.hid hm
          clear hm
          go_wp2_with fail
          revert HIQ
          generalize wo.alloc (.cells #[.int .i64 x.kind, .int .i64 x.n, .string x.name, .slice x.at_.1 x.args.length x.at_.2] 27) = wx
          obtain ⟨B, hB⟩ : ∃ z, z = wo.heap.size := ⟨_, rfl⟩
          rw [← hB] at HGN
          rw [← hB]
          have HBE := Lib.hid hB
          clear hB
          have hcc : ys.length ≤ cap := by omega
          have hwr : IntKind.i64.wrap (ys.length : Int) = (ys.length : Int) := wrapI (by omega) (by omega)
          intro HIQ
          obtain ⟨HIX, HRX, HLX, HBX⟩ := HIQ
          obtain ⟨x0, x1, x2, x3, _⟩ := cells4 HBX.out
          refine region_tail 7 (by kernel_rfl) (by kernel_rfl) ?_
          simp only [List.take_succ_cons, List.take_zero, List.drop_succ_cons, List.drop_zero]
          repeat still_step
          refine wpStill_nil ?_
          go_wp2_with (first
            | (at_builtin; refine append_any _ rfl _ _ 22 rfl 27 i0 zeroT 4 56 Try.underlying22 hi0 hz0 hz1 hz2 rfl (by decide) (.slice (some ⟨g, 0, none⟩) ys.length cap) ys.length (ys.flatMap LT.cells) rfl (HRX.out.turned0 (Turned.refl _ _).drew) x.at_.1 x.args.length x.at_.2 (x.args.flatMap LT.cells) rfl HLN.out.2.2 (by rw [LT.flat_length]) (fun ad e j u hu => lies_any HLX.out ad e j u hu) (LT.flat_one _) (by unfold maxLen; omega) (by omega) ?_; intro v' w3 hr3 T3' ho3'; have T3 : Turned (fun k => (Value.slice (some ⟨g, 0, none⟩) ys.length cap).ownBlock = some k) wx w3 := (Turned.refl _ wx).drew.trans T3'; have ho3 : v'.ownBlock = (Value.slice (some ⟨g, 0, none⟩) (ys.length + 1) cap).ownBlock ∨ ∀ k, v'.ownBlock = some k → wx.heap.size ≤ k := ho3'.elim .inl (fun e => .inr (fun k hk => by rw [hk] at e; injection e with e; exact Nat.le_of_eq e.symm)); have hb3 := (T3.block B (Array.getElem?_eq_some_iff.1 HBX.out).1 (fun e => HGN.out (by simpa [Value.ownBlock] using e))).trans HBX.out; obtain ⟨y0, y1, y2, y3, _⟩ := cells4 hb3; have HB3 := Lib.hid hb3; clear x0 x1 x2 x3 hb3 T3' ho3'; have hr3' : Row w3 27 4 v' (ys.length + 0) (ys.flatMap LT.cells ++ []) := (by rw [HARG.out] at hr3; exact hr3); obtain ⟨q1, q2, q3, q4⟩ := HIX.out.row_var hr3' T3 ho3; obtain ⟨a', cap', rfl⟩ := q1.shape; have hmx' := q1.max; have HR3 := Lib.hid hr3'; have HQ3 := Lib.hid q3; clear hr3 hr3' q1 q2 q3 q4; have hlk := had_yes HQ3.out HM.out h64.out))
          have HI3 : Hid (SeekI p mb m l n t w ys had _ w3) := HIX.out.skip HK.out HM.out HR3.out T3 ho3
          have HGB : Hid (0 ≤ 0) := Nat.le_refl 0
          go_roundg (Tm.sizes ys + Tm.gasT (bt l) had)
          case measure =>
            have := HG.out
            have := Tm.size_eq x
            have hgb := HGB.out
            simp only [Tm.sizes_append, Tm.sizes] at *
            omega
          case rel =>
            refine ⟨_, _, rfl, ?_, HI3⟩
            have := HG.out
            have := Tm.size_eq x
            have hgb := HGB.out
            simp only [Tm.sizes_append, Tm.sizes] at *
            omega
        · have HM := Lib.hid hm
          clear hm
          by_cases hxn : x.n = n
          · have hxb : (x.n == n) = true := by simp [hxn]
            have hres : RB = true := by
              rw [HRB.out, decide_eq_true]
              have hs := HIQ.1.out.seek
              rw [List.map_append, List.map_cons, List.map_nil, HV.out, hxn] at hs
              exact (Tm.vars_mem n).2 (hs.found H.out.ok HN.out)
            have HRES := Lib.hid hres
            clear hres hxn
            go_wp2_with fail
            revert HIQ
            generalize wo.alloc (.cells #[.int .i64 x.kind, .int .i64 x.n, .string x.name, .slice x.at_.1 x.args.length x.at_.2] 27) = wx
            obtain ⟨B, hB⟩ : ∃ z, z = wo.heap.size := ⟨_, rfl⟩
            rw [← hB] at HGN
            rw [← hB]
            have HBE := Lib.hid hB
            clear hB
            have hcc : ys.length ≤ cap := by omega
            have hwr : IntKind.i64.wrap (ys.length : Int) = (ys.length : Int) := wrapI (by omega) (by omega)
            intro HIQ
            obtain ⟨HIX, HRX, HLX, HBX⟩ := HIQ
            obtain ⟨x0, x1, x2, x3, _⟩ := cells4 HBX.out
            refine region_tail 7 (by kernel_rfl) (by kernel_rfl) ?_
            simp only [List.take_succ_cons, List.take_zero, List.drop_succ_cons, List.drop_zero]
            repeat still_step
            refine wpStill_nil ?_
            go_wp2_with (first
              | (at_builtin; refine append_any _ rfl _ _ 22 rfl 27 i0 zeroT 4 56 Try.underlying22 hi0 hz0 hz1 hz2 rfl (by decide) (.slice (some ⟨g, 0, none⟩) ys.length cap) ys.length (ys.flatMap LT.cells) rfl (HRX.out.turned0 (Turned.refl _ _).drew) x.at_.1 x.args.length x.at_.2 (x.args.flatMap LT.cells) rfl HLN.out.2.2 (by rw [LT.flat_length]) (fun ad e j u hu => lies_any HLX.out ad e j u hu) (LT.flat_one _) (by unfold maxLen; omega) (by omega) ?_; intro v' w3 hr3 T3' ho3'; have T3 : Turned (fun k => (Value.slice (some ⟨g, 0, none⟩) ys.length cap).ownBlock = some k) wx w3 := (Turned.refl _ wx).drew.trans T3'; have ho3 : v'.ownBlock = (Value.slice (some ⟨g, 0, none⟩) (ys.length + 1) cap).ownBlock ∨ ∀ k, v'.ownBlock = some k → wx.heap.size ≤ k := ho3'.elim .inl (fun e => .inr (fun k hk => by rw [hk] at e; injection e with e; exact Nat.le_of_eq e.symm)); have hb3 := (T3.block B (Array.getElem?_eq_some_iff.1 HBX.out).1 (fun e => HGN.out (by simpa [Value.ownBlock] using e))).trans HBX.out; obtain ⟨y0, y1, y2, y3, _⟩ := cells4 hb3; have HB3 := Lib.hid hb3; clear x0 x1 x2 x3 hb3 T3' ho3'; have hr3' : Row w3 27 4 v' (ys.length + 0) (ys.flatMap LT.cells ++ []) := (by rw [HARG.out] at hr3; exact hr3); obtain ⟨q1, q2, q3, q4⟩ := HIX.out.row_var hr3' T3 ho3; obtain ⟨a', cap', rfl⟩ := q1.shape; have hmx' := q1.max; have HR3 := Lib.hid hr3'; have HQ3 := Lib.hid q3; clear hr3 hr3' q1 q2 q3 q4; have hlk := had_no HQ3.out HM.out h64.out))
            go_ret
            rw [HRES.out]
            exact ⟨rfl, (HIX.out.row_var HR3.out T3 ho3).2.2.2⟩
          · have hxb : (x.n == n) = false := by simp [hxn]
            have HNE := Lib.hid hxn
            clear hxn
            cases hlk0 : lookL l x.n with
            | none =>
              have HLK := Lib.hid hlk0
              clear hlk0
              go_wp2_with fail
              revert HIQ
              generalize wo.alloc (.cells #[.int .i64 x.kind, .int .i64 x.n, .string x.name, .slice x.at_.1 x.args.length x.at_.2] 27) = wx
              obtain ⟨B, hB⟩ : ∃ z, z = wo.heap.size := ⟨_, rfl⟩
              rw [← hB] at HGN
              rw [← hB]
              have HBE := Lib.hid hB
              clear hB
              have hcc : ys.length ≤ cap := by omega
              have hwr : IntKind.i64.wrap (ys.length : Int) = (ys.length : Int) := wrapI (by omega) (by omega)
              intro HIQ
              obtain ⟨HIX, HRX, HLX, HBX⟩ := HIQ
              obtain ⟨x0, x1, x2, x3, _⟩ := cells4 HBX.out
              refine region_tail 7 (by kernel_rfl) (by kernel_rfl) ?_
              simp only [List.take_succ_cons, List.take_zero, List.drop_succ_cons, List.drop_zero]
              repeat still_step
              refine wpStill_nil ?_
              go_wp2_with (first
                | (at_builtin; refine append_any _ rfl _ _ 22 rfl 27 i0 zeroT 4 56 Try.underlying22 hi0 hz0 hz1 hz2 rfl (by decide) (.slice (some ⟨g, 0, none⟩) ys.length cap) ys.length (ys.flatMap LT.cells) rfl (HRX.out.turned0 (Turned.refl _ _).drew) x.at_.1 x.args.length x.at_.2 (x.args.flatMap LT.cells) rfl HLN.out.2.2 (by rw [LT.flat_length]) (fun ad e j u hu => lies_any HLX.out ad e j u hu) (LT.flat_one _) (by unfold maxLen; omega) (by omega) ?_; intro v' w3 hr3 T3' ho3'; have T3 : Turned (fun k => (Value.slice (some ⟨g, 0, none⟩) ys.length cap).ownBlock = some k) wx w3 := (Turned.refl _ wx).drew.trans T3'; have ho3 : v'.ownBlock = (Value.slice (some ⟨g, 0, none⟩) (ys.length + 1) cap).ownBlock ∨ ∀ k, v'.ownBlock = some k → wx.heap.size ≤ k := ho3'.elim .inl (fun e => .inr (fun k hk => by rw [hk] at e; injection e with e; exact Nat.le_of_eq e.symm)); have hb3 := (T3.block B (Array.getElem?_eq_some_iff.1 HBX.out).1 (fun e => HGN.out (by simpa [Value.ownBlock] using e))).trans HBX.out; obtain ⟨y0, y1, y2, y3, _⟩ := cells4 hb3; have HB3 := Lib.hid hb3; clear x0 x1 x2 x3 hb3 T3' ho3'; have hr3' : Row w3 27 4 v' (ys.length + 0) (ys.flatMap LT.cells ++ []) := (by rw [HARG.out] at hr3; exact hr3); obtain ⟨q1, q2, q3, q4⟩ := HIX.out.row_var hr3' T3 ho3; obtain ⟨a', cap', rfl⟩ := q1.shape; have hmx' := q1.max; have HR3 := Lib.hid hr3'; have HQ3 := Lib.hid q3; clear hr3 hr3' q1 q2 q3 q4; have hlk := had_no HQ3.out HM.out h64.out)
                | (at_mapUpdate; refine wpList_put rfl _ _ _ 140 rfl law2 Try.underlying140 rfl HQ3.out (by unfold maxLen; omega) rfl rfl hkey trivial ?_; intro w4 hm4 T4; have hmt := HIX.out.met HK.out HM.out HR3.out T3 ho3 hm4 T4; obtain ⟨z0, z1, hb4⟩ := H.out.read HMB.out hmt.2.2.2.1 hv0 hv1; rw [HLK.out] at z1; have hx4 := (T4.block B (Array.getElem?_eq_some_iff.1 HB3.out).1 (fun e => by have := HBE.out; have := HIX.out.base; have := HIX.out.turned.size; have := HWO.out; omega)).trans HB3.out; obtain ⟨u0, u1, u2, u3, _⟩ := cells4 hx4; have HM4 := Lib.hid hm4; have HR4 := Lib.hid hmt.1; have HBI4 := Lib.hid hb4; clear y0 y1 y2 y3 hm4 hmt hb4 hx4 hlk; rw [ptrV] at z1))
              go_quiet (fail)
              go_wp2_with fail
              have HI3 : Hid (SeekI p mb m l n t w ys (x.n :: had) _ (w4.drewN nq)) := (HIX.out.free H.out.ok HK.out HM.out HNE.out HLK.out HR3.out T3 ho3 HM4.out T4 (bb := bb) (sb := sb) (lv := .slice none 0 0) (tv := tv)).turned0 ((Turned.refl _ w4).drewN nq)
              have HGB : Hid (Tm.gasT (bt l) (x.n :: had) ≤ Tm.gasT (bt l) had) := Tm.gasT_mono x.n
              go_roundg (Tm.sizes ys + Tm.gasT (bt l) (x.n :: had))
              case measure =>
                have := HG.out
                have := Tm.size_eq x
                have hgb := HGB.out
                simp only [Tm.sizes_append, Tm.sizes] at *
                omega
              case rel =>
                refine ⟨_, _, rfl, ?_, HI3⟩
                have := HG.out
                have := Tm.size_eq x
                have hgb := HGB.out
                simp only [Tm.sizes_append, Tm.sizes] at *
                omega
            | some cy =>
              obtain ⟨c, y⟩ := cy
              have HLK := Lib.hid hlk0
              clear hlk0
              go_wp2_with fail
              revert HIQ
              generalize wo.alloc (.cells #[.int .i64 x.kind, .int .i64 x.n, .string x.name, .slice x.at_.1 x.args.length x.at_.2] 27) = wx
              obtain ⟨B, hB⟩ : ∃ z, z = wo.heap.size := ⟨_, rfl⟩
              rw [← hB] at HGN
              rw [← hB]
              have HBE := Lib.hid hB
              clear hB
              have hcc : ys.length ≤ cap := by omega
              have hwr : IntKind.i64.wrap (ys.length : Int) = (ys.length : Int) := wrapI (by omega) (by omega)
              intro HIQ
              obtain ⟨HIX, HRX, HLX, HBX⟩ := HIQ
              obtain ⟨x0, x1, x2, x3, _⟩ := cells4 HBX.out
              refine region_tail 7 (by kernel_rfl) (by kernel_rfl) ?_
              simp only [List.take_succ_cons, List.take_zero, List.drop_succ_cons, List.drop_zero]
              repeat still_step
              refine wpStill_nil ?_
              go_wp2_with (first
                | (at_builtin; refine append_any _ rfl _ _ 22 rfl 27 i0 zeroT 4 56 Try.underlying22 hi0 hz0 hz1 hz2 rfl (by decide) (.slice (some ⟨g, 0, none⟩) ys.length cap) ys.length (ys.flatMap LT.cells) rfl (HRX.out.turned0 (Turned.refl _ _).drew) x.at_.1 x.args.length x.at_.2 (x.args.flatMap LT.cells) rfl HLN.out.2.2 (by rw [LT.flat_length]) (fun ad e j u hu => lies_any HLX.out ad e j u hu) (LT.flat_one _) (by unfold maxLen; omega) (by omega) ?_; intro v' w3 hr3 T3' ho3'; have T3 : Turned (fun k => (Value.slice (some ⟨g, 0, none⟩) ys.length cap).ownBlock = some k) wx w3 := (Turned.refl _ wx).drew.trans T3'; have ho3 : v'.ownBlock = (Value.slice (some ⟨g, 0, none⟩) (ys.length + 1) cap).ownBlock ∨ ∀ k, v'.ownBlock = some k → wx.heap.size ≤ k := ho3'.elim .inl (fun e => .inr (fun k hk => by rw [hk] at e; injection e with e; exact Nat.le_of_eq e.symm)); have hb3 := (T3.block B (Array.getElem?_eq_some_iff.1 HBX.out).1 (fun e => HGN.out (by simpa [Value.ownBlock] using e))).trans HBX.out; obtain ⟨y0, y1, y2, y3, _⟩ := cells4 hb3; have HB3 := Lib.hid hb3; clear x0 x1 x2 x3 hb3 T3' ho3'; have hr3' : Row w3 27 4 v' (ys.length + 0) (ys.flatMap LT.cells ++ []) := (by rw [HARG.out] at hr3; exact hr3); obtain ⟨q1, q2, q3, q4⟩ := HIX.out.row_var hr3' T3 ho3; obtain ⟨a', cap', rfl⟩ := q1.shape; have hmx' := q1.max; have HR3 := Lib.hid hr3'; have HQ3 := Lib.hid q3; clear hr3 hr3' q1 q2 q3 q4; have hlk := had_no HQ3.out HM.out h64.out)
                | (at_mapUpdate; refine wpList_put rfl _ _ _ 140 rfl law2 Try.underlying140 rfl HQ3.out (by unfold maxLen; omega) rfl rfl hkey trivial ?_; intro w4 hm4 T4; have hmt := HIX.out.met HK.out HM.out HR3.out T3 ho3 hm4 T4; obtain ⟨z0, z1, hb4⟩ := H.out.read HMB.out hmt.2.2.2.1 hv0 hv1; rw [HLK.out] at z1; have hx4 := (T4.block B (Array.getElem?_eq_some_iff.1 HB3.out).1 (fun e => by have := HBE.out; have := HIX.out.base; have := HIX.out.turned.size; have := HWO.out; omega)).trans HB3.out; obtain ⟨u0, u1, u2, u3, _⟩ := cells4 hx4; have HM4 := Lib.hid hm4; have HR4 := Lib.hid hmt.1; have HBI4 := Lib.hid hb4; clear y0 y1 y2 y3 hm4 hmt hb4 hx4 hlk; rw [ptrV] at z1; obtain ⟨t0, t1, t2, t3, _⟩ := cells4 (HBI4.out.terms _ (lookL_mem HLK.out)).1))
              go_quiet (fail)
              go_wp2_with (first
                | (at_builtin; refine append_some _ rfl _ _ 22 rfl 27 i0 zeroT 4 56 Try.underlying22 hi0 hz0 hz1 hz2 rfl (by decide) (.slice a' ys.length cap') ys.length (ys.flatMap LT.cells) rfl ((HR4.out.turned0 ((Turned.refl _ _).drewN nq)).alloc _) ⟨w4.heap.size, 0, none⟩ 1 1 y.cells rfl (LT.cells_length y) (news_block (by rw [LT.cells_eq]; exact heap_alloc_new (w4.drewN nq) _)) (LT.cells_one y) (by omega) (by unfold maxLen; omega) (by omega) ?_; intro g5 cap5 w5 hr5 T5' hg5; have T5 : Turned (fun k => (Value.slice a' ys.length cap').ownBlock = some k) w4 w5 := (((Turned.refl _ w4).drewN nq).alloc _).trans T5'))
              have HI3 : Hid (SeekI p mb m l n t w (ys ++ [y]) (x.n :: had) (.slice (some ⟨g5, 0, none⟩) (ys.length + 1) cap5) w5) := HIX.out.bound H.out HK.out HM.out HLK.out HR3.out T3 ho3 HM4.out T4 hr5 T5 (hg5.elim (fun e => .inl e) (fun e => .inr (own_new e (by simp))))
              have HGB : Hid (Tm.gasT (bt l) (x.n :: had) + y.size ≤ Tm.gasT (bt l) had) := by
                have := Tm.gasT_met (p := y.bare) (by rw [look_bt, HLK.out]; rfl) HM.out
                rw [Tm.size_bare] at this
                exact this
              go_roundg (Tm.sizes (ys ++ [y]) + Tm.gasT (bt l) (x.n :: had))
              case measure =>
                have := HG.out
                have := Tm.size_eq x
                have hgb := HGB.out
                simp only [Tm.sizes_append, Tm.sizes] at *
                omega
              case rel =>
                refine ⟨_, _, rfl, ?_, HI3⟩
                have := HG.out
                have := Tm.size_eq x
                have hgb := HGB.out
                simp only [Tm.sizes_append, Tm.sizes] at *
                omega
      · have hkx : (x.kind != 0) = true := by simp [hk]
        have HK := Lib.hid hk
        clear hk
        go_wp2_with fail
        revert HIQ
        generalize wo.alloc (.cells #[.int .i64 x.kind, .int .i64 x.n, .string x.name, .slice x.at_.1 x.args.length x.at_.2] 27) = wx
        obtain ⟨B, hB⟩ : ∃ z, z = wo.heap.size := ⟨_, rfl⟩
        rw [← hB] at HGN
        rw [← hB]
        have HBE := Lib.hid hB
        clear hB
        have hcc : ys.length ≤ cap := by omega
        have hwr : IntKind.i64.wrap (ys.length : Int) = (ys.length : Int) := wrapI (by omega) (by omega)
        intro HIQ
        obtain ⟨HIX, HRX, HLX, HBX⟩ := HIQ
        obtain ⟨x0, x1, x2, x3, _⟩ := cells4 HBX.out
        refine region_tail 7 (by kernel_rfl) (by kernel_rfl) ?_
        simp only [List.take_succ_cons, List.take_zero, List.drop_succ_cons, List.drop_zero]
        repeat still_step
        refine wpStill_nil ?_
        go_wp2_with (first
          | (at_builtin; refine append_any _ rfl _ _ 22 rfl 27 i0 zeroT 4 56 Try.underlying22 hi0 hz0 hz1 hz2 rfl (by decide) (.slice (some ⟨g, 0, none⟩) ys.length cap) ys.length (ys.flatMap LT.cells) rfl (HRX.out.turned0 (Turned.refl _ _).drew) x.at_.1 x.args.length x.at_.2 (x.args.flatMap LT.cells) rfl HLN.out.2.2 (by rw [LT.flat_length]) (fun ad e j u hu => lies_any HLX.out ad e j u hu) (LT.flat_one _) (by unfold maxLen; omega) (by omega) ?_; intro v' w3 hr3 T3' ho3'; have T3 : Turned (fun k => (Value.slice (some ⟨g, 0, none⟩) ys.length cap).ownBlock = some k) wx w3 := (Turned.refl _ wx).drew.trans T3'; have ho3 : v'.ownBlock = (Value.slice (some ⟨g, 0, none⟩) (ys.length + 1) cap).ownBlock ∨ ∀ k, v'.ownBlock = some k → wx.heap.size ≤ k := ho3'.elim .inl (fun e => .inr (fun k hk => by rw [hk] at e; injection e with e; exact Nat.le_of_eq e.symm)); have hb3 := (T3.block B (Array.getElem?_eq_some_iff.1 HBX.out).1 (fun e => HGN.out (by simpa [Value.ownBlock] using e))).trans HBX.out; obtain ⟨y0, y1, y2, y3, _⟩ := cells4 hb3; have HB3 := Lib.hid hb3; clear x0 x1 x2 x3 hb3 T3' ho3'))
        have HI3 : Hid (SeekI p mb m l n t w (ys ++ x.args) had v' w3) := HIX.out.args HK.out hr3 T3 ho3
        obtain ⟨a', cap', rfl⟩ := hr3.shape
        have HGB : Hid (0 ≤ 0) := Nat.le_refl 0
        go_roundg (Tm.sizes (ys ++ x.args) + Tm.gasT (bt l) had)
        case measure =>
          have := HG.out
          have := Tm.size_eq x
          have hgb := HGB.out
          simp only [Tm.sizes_append, Tm.sizes] at *
          omega
        case rel =>
          refine ⟨_, _, rfl, ?_, HI3⟩
          have := HG.out
          have := Tm.size_eq x
          have hgb := HGB.out
          simp only [Tm.sizes_append, Tm.sizes] at *
          omega
end Go.Proofs.Ytoihjobdfjajfaa
namespace Go.Proofs.Ytoihjobdfjajfaa
set_option linter.unusedVariables false
set_option linter.unusedSimpArgs false
open Go.RowKit Go.Maps
theorem ownB_bare (m : Nat) (t : LT) : Tm.ownB m t.bare = Tm.ownB m t := by unfold Tm.ownB; rw [goodB_bare, Tm.vars_bare]
theorem noted0 {w w' : World} {o : Obj} (T : Turned (· = w.heap.size) (w.alloc o) w') : Turned (fun _ => False) w w' :=
  ((Turned.refl (fun _ => False) w).alloc o).step T (fun i hi e => by omega)
section
variable {p : Nat → Prop} {bb sb m : Nat} {lv tv : Value} {l : TL} {w w' : World} {t : LT} {n : Int}
def SetQ (p : Nat → Prop) (bb sb m : Nat) (lv tv : Value) (l : TL) (w : World) (n : Int) (t : LT) (w' : World) : Prop :=
  (∃ tv' l', BI p bb sb lv tv' m l' w' ∧ bt l' = (if Tm.setE m (bt l) n t.bare = 0 then (n, t.bare) :: bt l else bt l) ∧ (tv'.ownBlock = tv.ownBlock ∨ ∀ k, tv'.ownBlock = some k → w.heap.size ≤ k) ∧ ∀ b ∈ l', b ∈ l ∨ w.heap.size ≤ b.2.1) ∧ Turned (fun k => k = sb ∨ lv.ownBlock = some k ∨ tv.ownBlock = some k) w w'
theorem SetQ.same (h : BI p bb sb lv tv m l w) (hE : ¬ Tm.setE m (bt l) n t.bare = 0) (T : Turned (fun _ => False) w w') : SetQ p bb sb m lv tv l w n t w' :=
  ⟨⟨tv, l, h.turned0 T, by rw [if_neg hE], .inl rfl, fun b hb => .inl hb⟩, T.mono (fun _ _ f => f.elim)⟩
set_option maxHeartbeats 400000 in
theorem push_at {g cl i : Nat} {v : Value} (hb : BI p bb sb (.slice (some ⟨g, 0, none⟩) m cl) tv m l w) (hn : l.length < 65536) (hi : i < m) :
    Calls Try.prog 146 #[.pointer (some ⟨sb, 0, none⟩), .slice (some ⟨w.heap.size, 0, none⟩) 1 1] ((w.setCell ⟨g, i, none⟩ v).alloc (.cells #[.int .i64 n] 2)) fun e w' => e = .returned (.bool true) ∧ ∃ tv', w'.heap[sb]? = some (.cells #[.int .i64 65536, tv'] 209 (0, 0)) ∧
      Row w' 2 1 tv' (l.length + 1) ((l.map fun b => Value.int .i64 b.1).reverse ++ [.int .i64 n]) ∧ Row w' 165 1 (.slice (some ⟨g, 0, none⟩) m cl) m ((ptrs m l).set i v) ∧ Turned (fun k => k = sb ∨ (Value.slice (some ⟨g, 0, none⟩) m cl).ownBlock = some k ∨ tv.ownBlock = some k) w w' ∧ (tv'.ownBlock = tv.ownBlock ∨ ∀ k, tv'.ownBlock = some k → w.heap.size + 1 ≤ k) := by
  obtain ⟨n1, n2, n3, n4, n5, n6⟩ := hb.ne
  have hgs : g ≠ sb := fun e => n3 (by rw [e]; rfl)
  have hsl := (Array.getElem?_eq_some_iff.1 hb.s).1
  have hgl := hb.row.lt g rfl
  have T1 : Turned (fun k => k = g) w (w.setCell ⟨g, i, none⟩ v) := (Turned.refl (fun k => k = g) w).setCell (p := ⟨g, i, none⟩) (.inr rfl) v
  have T2 := T1.alloc (.cells #[.int .i64 n] 2)
  have hs2 := (T2.block sb hsl (fun e => hgs e.symm)).trans hb.s
  have ht2 := hb.trail.turned T2 (fun k hk e => n6 g rfl (by rw [← e]; exact hk))
  have hr2 := (hb.row.setAt (off := i) (by omega) v).turned0 ((Turned.refl _ _).alloc (.cells #[.int .i64 n] 2))
  have h0 := heap_alloc_new (w.setCell ⟨g, i, none⟩ v) (.cells #[.int .i64 n] 2)
  have hz : (w.setCell ⟨g, i, none⟩ v).heap.size = w.heap.size := by simp
  rw [hz] at h0
  refine (push146 hs2 ht2 hn n5 h0).mono ?_
  rintro e w' ⟨rfl, tv', g1, g2, g3, g4⟩
  refine ⟨rfl, tv', g1, g2, hr2.turned g3 (fun k hk e => ?_), (T2.mono (fun k _ e => .inr (.inl (by rw [e]; rfl)))).trans (g3.mono (fun k _ e => e.elim .inl (fun e => .inr (.inr e)))), g4.elim .inl (fun q => .inr (fun k hk => ?_))⟩
  · simp [Value.ownBlock] at hk
    subst hk
    exact e.elim hgs (fun e => n6 g rfl e)
  · have := q k hk
    have h2 : ((w.setCell ⟨g, i, none⟩ v).alloc (.cells #[.int .i64 n] 2)).heap.size = w.heap.size + 1 := by simp
    omega
theorem SetQ.done {g cl : Nat} {tv' : Value} {w6 w9 : World} (h : BI p bb sb (.slice (some ⟨g, 0, none⟩) m cl) tv m l w) (ht : t.In p w) (h0 : 0 ≤ n) (h1 : n < (m : Int)) (hE : Tm.setE m (bt l) n t.bare = 0) (T6 : Turned (fun _ => False) w w6) (hD : BI p bb sb (.slice (some ⟨g, 0, none⟩) m cl) tv m l w6)
    (hc : w6.heap[w.heap.size]? = some (.cells #[.int .i64 t.kind, .int .i64 t.n, .string t.name, .slice t.at_.1 t.args.length t.at_.2] 27 (0, 0)))
    (g1 : w9.heap[sb]? = some (.cells #[.int .i64 65536, tv'] 209 (0, 0))) (g2 : Row w9 2 1 tv' (l.length + 1) ((l.map fun b => Value.int .i64 b.1).reverse ++ [.int .i64 n])) (g3 : Row w9 165 1 (.slice (some ⟨g, 0, none⟩) m cl) m ((ptrs m l).set n.toNat (.pointer (some ⟨w.heap.size, 0, none⟩))))
    (g4 : Turned (fun k => k = sb ∨ (Value.slice (some ⟨g, 0, none⟩) m cl).ownBlock = some k ∨ tv.ownBlock = some k) w6 w9) (g5 : tv'.ownBlock = tv.ownBlock ∨ ∀ k, tv'.ownBlock = some k → w6.heap.size + 1 ≤ k) : SetQ p bb sb m (.slice (some ⟨g, 0, none⟩) m cl) tv l w n t w9 := by
  have hn : ((n.toNat : Nat) : Int) = n := Int.toNat_of_nonneg h0
  have hcl := (Array.getElem?_eq_some_iff.1 hc).1
  refine ⟨⟨tv', ((n.toNat : Int), w.heap.size, t) :: l, ?_, ?_, ?_, fun b hb => (List.mem_cons.1 hb).elim (fun e => .inr (by rw [e]; exact Nat.le_refl _)) .inl⟩, (T6.mono (fun _ _ f => f.elim)).trans g4⟩
  · refine hD.set (by omega) (by rw [hn]; exact hE) g4 g1 g3 (by rw [hn]; exact g2) (g5.elim .inl (fun q => .inr (fun k hk => ?_))) hc (fun c => ?_) (ht.turned0 T6)
    · have := q k hk; omega
    · exact Nat.lt_irrefl _ (h.own_lt _ c)
  · rw [if_pos hE, hn]; rfl
  · refine g5.elim .inl (fun q => .inr (fun k hk => ?_))
    have := q k hk
    have := T6.size
    omega
set_option maxRecDepth 100000 in
set_option maxHeartbeats 3200000 in
theorem set88 (h : BI p bb sb lv tv m l w) (ht : t.In p w) (hs : slim t) (n : Int) (h64 : I64 n) :
    Calls Try.prog 88 #[.pointer (some ⟨bb, 0, none⟩), .int .i64 n, t.val] w fun e w' => e = .returned (.int .i64 (Tm.setE m (bt l) n t.bare)) ∧ SetQ p bb sb m lv tv l w n t w' := by
  have hmm := @run_makeMap Try.prog
  have T1 := (Turned.refl (fun _ => False) w).alloc (.cells #[.int .i64 t.kind, .int .i64 t.n, .string t.name, .slice t.at_.1 t.args.length t.at_.2] 27)
  have hbx := heap_alloc_new w (.cells #[.int .i64 t.kind, .int .i64 t.n, .string t.name, .slice t.at_.1 t.args.length t.at_.2] 27)
  have hgv := given143q (h.turned0 T1) n
  have how := own144 (h.turned0 T1) (ht.turned0 T1) hs
  have H := Lib.hid h
  have HT := Lib.hid ht
  have HV := LT.val_eq t
  rw [HV] at how ⊢
  have HT1 := Lib.hid T1
  have HBX := Lib.hid hbx
  have HEB := Lib.hid (ownB_bare m t)
  by_cases hn0 : 0 ≤ n ∧ n < (m : Int)
  · rw [decide_eq_true hn0] at hgv
    have HGV := Lib.hid hgv
    obtain ⟨hv0, hv1⟩ := hn0
    cases hob : Tm.ownB m t with
    | false =>
      rw [hob] at how
      have hE : Tm.setE m (bt l) n t.bare = 1 := by unfold Tm.setE; rw [HEB.out, hob, if_neg (fun c => Bool.false_ne_true c.2.2)]
      have HE := Lib.hid hE
      have HOW := Lib.hid how
      clear h ht hs hgv how hE hob T1 hbx HV
      go_enter Try.func88, Try.ntmps88
      go_wp2_with (first
        | (go_at_call 143; (with_reducible refine HGV.out.mono ?_); rintro e w3 ⟨rfl, rfl⟩)
        | (go_at_call 144; (with_reducible refine HOW.out.mono ?_); rintro e w4 ⟨rfl, T4⟩))
      go_ret
      exact ⟨by rw [HE.out]; rfl, SetQ.same H.out (by rw [HE.out]; decide) (HT1.out.trans T4)⟩
    | true =>
      rw [hob] at how
      have HOW := Lib.hid how
      have hgb := Tm.ownB_iff.1 (show Tm.ownB m t.bare = true by rw [HEB.out]; exact hob)
      obtain ⟨g, cl, hle⟩ := h.row.shape_pos (by omega)
      subst hle
      have hmx := h.row.max
      have hm65 := h.most
      have hfacts : ∀ W, Turned (fun _ => False) (w.alloc (.cells #[.int .i64 t.kind, .int .i64 t.n, .string t.name, .slice t.at_.1 t.args.length t.at_.2] 27)) W → W.cell? ⟨bb, 0, none⟩ = some (.slice (some ⟨g, 0, none⟩) m cl) ∧ W.cell? ⟨bb, 1, none⟩ = some (.pointer (some ⟨sb, 0, none⟩)) ∧ W.cell? ⟨g, n.toNat, none⟩ = some (ptrV (lookL l n)) ∧ W.frozen? ⟨g, n.toNat, none⟩ = false ∧ W.heap[w.heap.size]? = some (.cells #[.int .i64 t.kind, .int .i64 t.n, .string t.name, .slice t.at_.1 t.args.length t.at_.2] 27 (0, 0)) ∧ BI p bb sb (.slice (some ⟨g, 0, none⟩) m cl) tv m l W := by
        intro W hW
        have hb := H.out.turned0 (HT1.out.trans hW)
        obtain ⟨c0, c1, _⟩ := rec2b hb.b
        have hr := hb.row.cells rfl n.toNat _ (ptrs_at (by omega))
        rw [Int.toNat_of_nonneg hv0] at hr
        exact ⟨c0, c1, hr, hb.row.free rfl _, (hW.block _ (by simp) (fun f => f)).trans HBX.out, hb⟩
      have HF := Lib.hid hfacts
      cases hlk : lookL l n with
      | some cy =>
        obtain ⟨c, y⟩ := cy
        have hE : Tm.setE m (bt l) n t.bare = 8 := by
          unfold Tm.setE
          rw [HEB.out, if_pos ⟨hv0, hv1, hob⟩, if_pos]
          exact Classical.byContradiction (fun c => by
            have := h.free.2 c
            rw [hlk] at this
            cases this)
        have HE := Lib.hid hE
        have HLK := Lib.hid hlk
        clear h ht hs hgv how hE hob T1 hbx HV hfacts hlk hgb
        go_enter Try.func88, Try.ntmps88
        go_wp2_with (first
          | (go_at_call 143; (with_reducible refine HGV.out.mono ?_); rintro e w3 ⟨rfl, rfl⟩)
          | (go_at_call 144; (with_reducible refine HOW.out.mono ?_); rintro e w4 ⟨rfl, T4⟩; obtain ⟨b0, b1, b2, b3, b4, b5⟩ := HF.out _ T4; rw [HLK.out, ptrV] at b2; clear b4 b5))
        go_ret
        exact ⟨by rw [HE.out]; rfl, SetQ.same H.out (by rw [HE.out]; decide) (HT1.out.trans T4)⟩
      | none =>
        have hdom := h.free.1 hlk
        have hwi : ∀ W, Turned (fun _ => False) (w.alloc (.cells #[.int .i64 t.kind, .int .i64 t.n, .string t.name, .slice t.at_.1 t.args.length t.at_.2] 27)) W → Calls Try.prog 145 #[.pointer (some ⟨bb, 0, none⟩), .int .i64 n, .agg #[.int .i64 t.kind, .int .i64 t.n, .string t.name, .slice t.at_.1 t.args.length t.at_.2], .map (some W.heap.size)] (W.alloc (.map #[] 0)) fun e w' => e = .returned (.bool (decide (n ∈ (Tm.img (bt l) t.bare).vars))) ∧ Turned (· = W.heap.size) (W.alloc (.map #[] 0)) w' := by
          intro W hW
          have hb := (HF.out W hW).2.2.2.2.2
          have hq := within145 (mb := W.heap.size) (hb.turned0 ((Turned.refl _ W).alloc (.map #[] 0))) (HT.out.turned0 ((HT1.out.trans hW).alloc _)) hob hdom (IMap.made W Try.prog 2)
            ⟨fun c => Nat.lt_irrefl _ (hb.own_lt _ c), fun b hbm c => (by have := (Array.getElem?_eq_some_iff.1 (hb.terms b hbm).1).1; omega), fun c => Nat.lt_irrefl _ (hb.sep _ c).1⟩
          rw [HV] at hq
          exact hq
        have HLK := Lib.hid hlk
        by_cases hvv : n ∈ (Tm.img (bt l) t.bare).vars
        · have hE : Tm.setE m (bt l) n t.bare = 5 := by
            unfold Tm.setE
            rw [HEB.out, if_pos ⟨hv0, hv1, hob⟩, if_neg hdom, if_pos hvv]
          have HE := Lib.hid hE
          rw [decide_eq_true hvv] at hwi
          have HWI := Lib.hid hwi
          clear h ht hs hgv how hE hob T1 hbx HV hfacts hlk hgb hdom hvv hwi
          go_enter Try.func88, Try.ntmps88
          go_wp2_with (first
            | (go_at_call 143; (with_reducible refine HGV.out.mono ?_); rintro e w3 ⟨rfl, rfl⟩)
            | (go_at_call 144; (with_reducible refine HOW.out.mono ?_); rintro e w4 ⟨rfl, T4⟩; obtain ⟨b0, b1, b2, b3, b4, b5⟩ := HF.out _ T4; rw [HLK.out, ptrV] at b2; obtain ⟨x0, x1, x2, x3, _⟩ := cells4 b4; clear b4 b5)
            | (go_at_call 145; (with_reducible refine (HWI.out _ T4).mono ?_); rintro e w6 ⟨rfl, T6⟩))
          go_ret
          exact ⟨by rw [HE.out]; rfl, SetQ.same H.out (by rw [HE.out]; decide) ((HT1.out.trans T4).trans (noted0 T6))⟩
        · have hE : Tm.setE m (bt l) n t.bare = 0 := by
            unfold Tm.setE
            rw [HEB.out, if_pos ⟨hv0, hv1, hob⟩, if_neg hdom, if_neg hvv]
          have HE := Lib.hid hE
          rw [decide_eq_false hvv] at hwi
          have HWI := Lib.hid hwi
          have hne : ¬ bb = g := fun e => h.ne.2.1 (by rw [e]; rfl)
          have hne' : ¬ g = bb := fun e => hne e.symm
          have hlen := h.length
          have hll : l.length < 65536 := by
            have := nodup_length m (n :: Tm.dom (bt l)) (List.nodup_cons.2 ⟨hdom, Tm.okT_nodup h.ok⟩) (fun x hx => by
              rcases List.mem_cons.1 hx with rfl | hx
              · exact ⟨hv0, hv1⟩
              · obtain ⟨b, hb, rfl⟩ := List.mem_map.1 hx
                have := Tm.okT_mem h.ok hb
                exact ⟨this.1, this.2.1⟩)
            simp [Tm.dom, bt_length] at this
            omega
          clear h ht hs hgv how hE hob T1 hbx HV hfacts hlk hgb hdom hvv hwi
          go_enter Try.func88, Try.ntmps88
          go_wp2_with (first
            | (go_at_call 143; (with_reducible refine HGV.out.mono ?_); rintro e w3 ⟨rfl, rfl⟩)
            | (go_at_call 144; (with_reducible refine HOW.out.mono ?_); rintro e w4 ⟨rfl, T4⟩; obtain ⟨b0, b1, b2, b3, b4, b5⟩ := HF.out _ T4; rw [HLK.out, ptrV] at b2; obtain ⟨x0, x1, x2, x3, _⟩ := cells4 b4; clear b4 b5)
            | (go_at_call 145; (with_reducible refine (HWI.out _ T4).mono ?_); rintro e w6 ⟨rfl, T6⟩; have TM := T4.trans (noted0 T6); obtain ⟨d0, d1, d2, d3, d4, d5⟩ := HF.out _ TM; have HD4 := Lib.hid d4; have HD5 := Lib.hid d5; have HTM := Lib.hid TM; clear b0 b1 b2 b3 x0 x1 x2 x3 d4 d5 TM; rw [HLK.out, ptrV] at d2)
            | (go_at_call 146; (with_reducible refine (push_at HD5.out hll (by omega)).mono ?_); rintro e w9 ⟨rfl, tv', g1, g2, g3, g4, g5⟩; have HG := Lib.hid (And.intro g1 (And.intro g2 (And.intro g3 (And.intro g4 g5)))); clear g1 g2 g3 g4 g5))
          go_ret
          refine ⟨by rw [HE.out]; rfl, SetQ.done H.out HT.out hv0 hv1 HE.out (HT1.out.trans HTM.out) HD5.out HD4.out HG.out.1 HG.out.2.1 HG.out.2.2.1 HG.out.2.2.2.1 HG.out.2.2.2.2⟩
  · rw [decide_eq_false hn0] at hgv
    have HGV := Lib.hid hgv
    have hE : Tm.setE m (bt l) n t.bare = 1 := by unfold Tm.setE; rw [if_neg (fun c => hn0 ⟨c.1, c.2.1⟩)]
    have HE := Lib.hid hE
    clear h ht hs hgv how hE hn0 hbx HV T1
    go_enter Try.func88, Try.ntmps88
    go_wp2_with (go_at_call 143; (with_reducible refine HGV.out.mono ?_); rintro e w3 ⟨rfl, rfl⟩)
    go_ret
    exact ⟨by rw [HE.out]; rfl, SetQ.same H.out (by rw [HE.out]; decide) HT1.out⟩
end
end Go.Proofs.Ytoihjobdfjajfaa
namespace Go.Proofs.Ytoihjobdfjajfaa
set_option linter.unusedVariables false
set_option linter.unusedSimpArgs false
open Go.RowKit Go.Maps
def wholeE (m : Nat) (l : Tm.Trail) (t : Tm Unit) : Int := if Tm.ownB m t = true then (if Tm.wholeB l t = true then 0 else 12) else 1
def wholeT (m : Nat) (l : Tm.Trail) (t : Tm Unit) : Tm Unit := if wholeE m l t = 0 then Tm.img l t else (leaf 0 0 ByteArray.empty).bare
section
variable {p : Nat → Prop} {bb sb m : Nat} {lv tv : Value} {l : TL} {w w' : World} {t : LT}
set_option maxRecDepth 100000 in
set_option maxHeartbeats 3200000 in
theorem whole89 (h : BI p bb sb lv tv m l w) (ht : t.In p w) (hs : slim t) :
    Calls Try.prog 89 #[.pointer (some ⟨bb, 0, none⟩), t.val] w fun e w' => ∃ u : LT, e = .returned (.tuple #[u.val, .int .i64 (wholeE m (bt l) t.bare)]) ∧ u.bare = wholeT m (bt l) t.bare ∧ u.In (fun k => p k ∨ w.heap.size ≤ k) w' ∧ Turned (fun _ => False) w w' := by
  have h2 := twoBox w (.cells #[.int .i64 t.kind, .int .i64 t.n, .string t.name, .slice t.at_.1 t.args.length t.at_.2] 27) (.cells #[.int .i64 0, .int .i64 0, .string ⟨#[]⟩, .slice none 0 0] 27)
  obtain ⟨w2, hw2⟩ : ∃ z, z = (w.alloc (.cells #[.int .i64 t.kind, .int .i64 t.n, .string t.name, .slice t.at_.1 t.args.length t.at_.2] 27)).alloc (.cells #[.int .i64 0, .int .i64 0, .string ⟨#[]⟩, .slice none 0 0] 27) := ⟨_, rfl⟩
  rw [← hw2] at h2
  have hkp : ∀ W, Turned (fun _ => False) w2 W → W.heap[w.heap.size]? = some (.cells #[.int .i64 t.kind, .int .i64 t.n, .string t.name, .slice t.at_.1 t.args.length t.at_.2] 27 (0, 0)) ∧ W.heap[w.heap.size + 1]? = some (.cells #[.int .i64 0, .int .i64 0, .string ⟨#[]⟩, .slice none 0 0] 27 (0, 0)) := fun W hW => ⟨(hW.block _ (by have := h2.2.1; omega) (fun f => f)).trans h2.2.2.1, (hW.block _ (by have := h2.2.1; omega) (fun f => f)).trans h2.2.2.2⟩
  have how := own144 (h.turned0 h2.1) (ht.turned0 h2.1) hs
  have HV := LT.val_eq t
  rw [HV] at how
  rw [HV]
  have HOW := Lib.hid how
  have HKP := Lib.hid hkp
  have HT2 := Lib.hid h2.1
  have HS2 := Lib.hid h2.2.1
  have HW2 := Lib.hid hw2
  have HH := Lib.hid h
  have HT := Lib.hid ht
  have HVV := Lib.hid HV
  have hob0 := ownB_bare m t
  clear how hkp h2 hw2 h ht hs HV
  cases hob : Tm.ownB m t with
  | false =>
    have HE : Hid (wholeE m (bt l) t.bare = 1) := by show _ = _; unfold wholeE; rw [hob0, hob]; rfl
    have HU : Hid (wholeT m (bt l) t.bare = (leaf 0 0 ByteArray.empty).bare) := by show _ = _; unfold wholeT; rw [HE.out]; rfl
    rw [hob] at HOW
    clear hob hob0
    go_enter Try.func89, Try.ntmps89
    go_wp2_with (go_at_call 144; rw [← HW2.out]; (with_reducible refine HOW.out.mono ?_); rintro e w4 ⟨rfl, T4⟩; obtain ⟨_, hz⟩ := HKP.out _ T4; obtain ⟨z0, z1, z2, z3, f0, f1, f2, f3⟩ := cells4 hz; have HZ := Lib.hid hz; clear hz)
    have hset := set4 (a' := .int .i64 0) (b' := .int .i64 0) (c' := .string ⟨#[]⟩) (d' := .slice none 0 0) HZ.out
    have Tq := turned_store4 w4 (w.heap.size + 1) (.int .i64 0) (.int .i64 0) (.string ⟨#[]⟩) (.slice none 0 0)
    refine bodyPost_ret (results_cell_tmp1 Try.results89 _ _ (w.heap.size + 1) 27 _ (0, 0) _ rfl hset Try.underlying27 rfl (by kernel_rfl)) rfl ⟨leaf 0 0 ByteArray.empty, by rw [HE.out]; rfl, HU.out.symm, leafIn' (i64_lit _ (by omega)) (i64_lit _ (by omega)) (by unfold maxLen; decide), (HT2.out.trans T4).step Tq (fun i hi e => by omega)⟩
  | true =>
    have hgb := Tm.ownB_iff.1 (show Tm.ownB m t.bare = true by rw [hob0, hob])
    rw [hob] at HOW
    obtain ⟨ok, hok⟩ : ∃ z, z = Tm.wholeB (bt l) t.bare := ⟨_, rfl⟩
    have hmk : ∀ W, Turned (fun _ => False) w2 W → Calls Try.prog 147 #[.pointer (some ⟨W.heap.size, 0, none⟩), .agg #[.int .i64 t.kind, .int .i64 t.n, .string t.name, .slice t.at_.1 t.args.length t.at_.2], .int .i64 1] (W.alloc (.cells #[.pointer (some ⟨bb, 0, none⟩), .int .i64 0] 170)) fun e w' => ∃ u : LT, e = .returned (.tuple #[u.val, .bool ok]) ∧ u.In (fun k => p k ∨ w.heap.size + 2 ≤ k) w' ∧ (ok = true → u.bare = Tm.img (bt l) t.bare) ∧ Turned (fun _ => False) W w' := by
      intro W hW
      have hb := HH.out.turned0 (HT2.out.trans hW)
      have TA : Turned (fun _ => False) W (W.alloc (.cells #[.pointer (some ⟨bb, 0, none⟩), .int .i64 0] 170)) := (Turned.refl _ W).alloc _
      have := make147 (K := W.heap.size) 65 t (W.alloc (.cells #[.pointer (some ⟨bb, 0, none⟩), .int .i64 0] 170)) 0 1 (by omega) (by omega) (hb.turned0 TA) (HT.out.turned0 ((HT2.out.trans hW).trans TA)) (Tm.good_ones' hgb.1) ⟨fun c => Nat.lt_irrefl _ (hb.own_lt _ c), fun b hbm c => (by have := (Array.getElem?_eq_some_iff.1 (hb.terms b hbm).1).1; omega), fun c => Nat.lt_irrefl _ (hb.sep _ c).1⟩ (heap_alloc_new W _) (by omega)
      rw [HVV.out] at this
      refine this.mono (fun e w' ⟨u, h1, h2, h3, _, h5⟩ => ⟨u, ?_, h2.mono (fun k _ hk => hk.elim .inl (fun hk => .inr (by have := (hW.trans TA).size; have := HS2.out; omega))), fun e => h3 (by rw [Tm.makeOk_whole, ← hok, e]), TA.step h5 (fun i hi e => by omega)⟩)
      rw [h1, Tm.makeOk_whole, ← hok]
    have HMK := Lib.hid hmk
    have HE : Hid (wholeE m (bt l) t.bare = if ok = true then 0 else 12) := by show _ = _; unfold wholeE; rw [hob0, hob, ← hok]; rfl
    have HU : Hid (wholeT m (bt l) t.bare = if ok = true then Tm.img (bt l) t.bare else (leaf 0 0 ByteArray.empty).bare) := by
      show _ = _
      unfold wholeT
      rw [HE.out]
      cases ok <;> rfl
    clear hob hob0 hmk hgb hok
    cases ok with
    | false =>
      go_enter Try.func89, Try.ntmps89
      go_wp2_with (first
        | (go_at_call 144; rw [← HW2.out]; (with_reducible refine HOW.out.mono ?_); rintro e w4 ⟨rfl, T4⟩; obtain ⟨hc, _⟩ := HKP.out _ (T4.alloc (.cells #[.pointer (some ⟨bb, 0, none⟩), .int .i64 0] 170)); obtain ⟨c0, c1, c2, c3, _⟩ := cells4 hc; have HT4 := Lib.hid T4; clear hc)
        | (go_at_call 147; (with_reducible refine (HMK.out _ T4).mono ?_); rintro e w7 ⟨u, rfl, hui, _, T7⟩; rw [LT.val_eq]; have T8 := (T7.alloc (.cells #[.int .i64 u.kind, .int .i64 u.n, .string u.name, .slice u.at_.1 u.args.length u.at_.2] 27)); have hz8 := (HKP.out _ (HT4.out.trans T8)).2; obtain ⟨z0, z1, z2, z3, f0, f1, f2, f3⟩ := cells4 hz8; have HZ := Lib.hid hz8; have HT8 := Lib.hid T8; clear hz8 T7 T8 hui))
      have hset := set4 (a' := .int .i64 0) (b' := .int .i64 0) (c' := .string ⟨#[]⟩) (d' := .slice none 0 0) HZ.out
      have Tq := fun W => turned_store4 W (w.heap.size + 1) (.int .i64 0) (.int .i64 0) (.string ⟨#[]⟩) (.slice none 0 0)
      refine bodyPost_ret (results_cell_tmp1 Try.results89 _ _ (w.heap.size + 1) 27 _ (0, 0) _ rfl hset Try.underlying27 rfl (by kernel_rfl)) rfl ⟨leaf 0 0 ByteArray.empty, by rw [HE.out]; rfl, HU.out.symm, leafIn' (i64_lit _ (by omega)) (i64_lit _ (by omega)) (by unfold maxLen; decide), ((HT2.out.trans HT4.out).trans HT8.out).step (Tq _) (fun i hi e => by omega)⟩
    | true =>
      go_enter Try.func89, Try.ntmps89
      go_wp2_with (first
        | (go_at_call 144; rw [← HW2.out]; (with_reducible refine HOW.out.mono ?_); rintro e w4 ⟨rfl, T4⟩; obtain ⟨hc, _⟩ := HKP.out _ (T4.alloc (.cells #[.pointer (some ⟨bb, 0, none⟩), .int .i64 0] 170)); obtain ⟨c0, c1, c2, c3, _⟩ := cells4 hc; have HT4 := Lib.hid T4; clear hc)
        | (go_at_call 147; ((with_reducible refine (HMK.out _ T4).mono ?_); rintro e w7 ⟨u, rfl, hui, hub, T7⟩; rw [LT.val_eq]; have T8 := (T7.alloc (.cells #[.int .i64 u.kind, .int .i64 u.n, .string u.name, .slice u.at_.1 u.args.length u.at_.2] 27)); have hz8 := (HKP.out _ (HT4.out.trans T8)).2; obtain ⟨z0, z1, z2, z3, f0, f1, f2, f3⟩ := cells4 hz8; have HZ := Lib.hid hz8; have HT8 := Lib.hid T8; have HUI := Lib.hid (hui.turned0 ((Turned.refl _ w7).alloc (.cells #[.int .i64 u.kind, .int .i64 u.n, .string u.name, .slice u.at_.1 u.args.length u.at_.2] 27))); have HUB := Lib.hid (hub (by trivial)); clear hz8 T7 T8 hui hub)))
      have hset := set4 (a' := .int .i64 u.kind) (b' := .int .i64 u.n) (c' := .string u.name) (d' := .slice u.at_.1 u.args.length u.at_.2) HZ.out
      have Tq := fun W => turned_store4 W (w.heap.size + 1) (.int .i64 u.kind) (.int .i64 u.n) (.string u.name) (.slice u.at_.1 u.args.length u.at_.2)
      refine bodyPost_ret (results_cell_tmp1 Try.results89 _ _ (w.heap.size + 1) 27 _ (0, 0) _ rfl hset Try.underlying27 rfl (by kernel_rfl)) rfl ⟨u, by rw [HE.out, LT.val_eq]; rfl, HUB.out.trans HU.out.symm, ?_, ((HT2.out.trans HT4.out).trans HT8.out).step (Tq _) (fun i hi e => by omega)⟩
      exact HUI.out.turned (Tq _) (fun k _ hk e => by
        rcases hk with hk | hk
        · have := (HH.out.sep k hk).1; omega
        · omega) (fun k _ hk => hk.elim .inl (fun hk => .inr (by omega)))
end
end Go.Proofs.Ytoihjobdfjajfaa
namespace Go.Proofs.Ytoihjobdfjajfaa
set_option linter.unusedVariables false
set_option linter.unusedSimpArgs false
open Go.RowKit
set_option maxHeartbeats 800000 in
theorem deep85 (p : Nat → Prop) (k : Nat) : ∀ (t : LT) (w : World), k ≤ 1000 → t.In p w →
    Calls Try.prog 85 #[t.val, .int .i64 k] w fun e w' => e = .returned (.bool (deepB k t)) ∧ Turned (fun _ => False) w w' := by
  induction k with
  | zero =>
    intro t w hk ht
    rw [LT.val_eq]
    go_enter Try.func85, Try.ntmps85
    go_wp2_with fail
    go_ret
    exact ⟨rfl, (Turned.refl _ _).alloc _⟩
  | succ k ih =>
    intro t w hk ht
    rw [LT.val_eq]
    have hl := ht.len
    have hm := hl.2.1
    have hm1 := hl.1
    unfold maxLen at hm
    by_cases h12 : 12 < t.args.length
    · go_enter Try.func85, Try.ntmps85
      go_wp2_with fail
      go_ret
      exact ⟨by simp [deepB, h12], (Turned.refl _ _).alloc _⟩
    · have hd : decide (12 < (t.args.length : Int)) = false := by simp; omega
      have hgo : deepB (k + 1) t = t.args.any (deepB k) := by simp [deepB, h12]
      rw [hgo]
      clear hgo
      go_enter Try.func85, Try.ntmps85
      go_wp2_with fail
      have T1 := (Turned.refl (fun _ => False) w).alloc (.cells #[.int .i64 t.kind, .int .i64 t.n, .string t.name, .slice t.at_.1 t.args.length t.at_.2] 27)
      have hb1 := boxed w #[.int .i64 t.kind, .int .i64 t.n, .string t.name, .slice t.at_.1 t.args.length t.at_.2] 27 3
      revert T1 hb1
      generalize w.alloc (.cells #[.int .i64 t.kind, .int .i64 t.n, .string t.name, .slice t.at_.1 t.args.length t.at_.2] 27) = w1
      intro T1 hb1
      have ht1 := ht.turned0 T1
      clear ht hl
      go_loopw [5] (fun i wr => ∃ j : Nat, j ≤ t.args.length ∧ i = .int .i64 j ∧ (t.args.take j).any (deepB k) = false ∧ Turned (fun _ => False) w1 wr) (fun i _ => t.args.length - (intOf i).toNat)
      case atStart => exact ⟨0, Nat.zero_le _, rfl, rfl, Turned.refl _ _⟩
      case round =>
        obtain ⟨j, hj, rfl, hany, Tr⟩ := hrel
        have hb := Tr.cell0 hb1
        simp at hb
        have HA := Lib.hid hany
        clear hany
        by_cases hjl : j < t.args.length
        · have hx : t.args[j]? = some t.args[j] := List.getElem?_eq_getElem hjl
          obtain ⟨x, hxe⟩ : ∃ x, x = t.args[j] := ⟨_, rfl⟩
          rw [← hxe] at hx
          clear hxe
          have hxin := (LT.ins_iff _).1 (ht1.turned0 Tr).args x (List.mem_of_getElem? hx)
          obtain ⟨b, o, ha, _, c0, c1, c2, c3⟩ := (ht1.turned0 Tr).lies.cell hx
          have HX := Lib.hid hx
          clear hx
          rw [ha] at hb
          have hih := fun W h => ih x W (by omega) h
          rw [LT.val_eq] at hih
          have HI := Lib.hid hih
          clear hih ih
          have HAd := Lib.hid ha
          clear ha
          go_wp2_with (go_at_call 85; refine (HI.out _ hxin).mono ?_; rintro e w2 ⟨rfl, T2⟩)
          · have hd : deepB k x = true := by assumption
            go_ret
            exact ⟨ret_bool (any_yes _ _ _ _ HX.out hd).symm, T1.trans (Tr.trans T2)⟩
          · have hd : deepB k x = false := by assumption
            go_roundw
            case rel => exact ⟨j + 1, by omega, by go_num, by rw [any_snoc _ _ _ _ HX.out, HA.out, hd]; rfl, Tr.trans T2⟩
            case measure => simp [intOf]; omega
        · go_wp2_with fail
          go_ret
          refine ⟨?_, T1.trans Tr⟩
          have : j = t.args.length := by omega
          have h := HA.out
          rw [this, List.take_length] at h
          exact ret_bool h.symm
end Go.Proofs.Ytoihjobdfjajfaa
namespace Go.Proofs.Ytoihjobdfjajfaa
set_option linter.unusedVariables false
set_option linter.unusedSimpArgs false
open Go.RowKit Go.Maps
def pT : Tm Unit := .mk 2 0 ⟨#[102]⟩ () [Tm.V 0, Tm.V 1, Tm.V 0]
theorem sameVal' {p : Nat → Prop} {a b : LT} {w : World} {r : Bool} (ha : a.In p w) (hb : b.In p w) (sa : slim a) (sb : slim b) (hr : sameB a b = r) : Calls Try.prog 52 #[.agg #[.int .i64 a.kind, .int .i64 a.n, .string a.name, .slice a.at_.1 a.args.length a.at_.2], .agg #[.int .i64 b.kind, .int .i64 b.n, .string b.name, .slice b.at_.1 b.args.length b.at_.2]] w fun e w' => e = .returned (.bool r) ∧ Turned (fun _ => False) w w' := by
  have h := same52 ha hb sa sb
  rw [LT.val_eq a, LT.val_eq b, hr] at h
  exact h
def Aw13 (wz : World) : List Value → World → Prop
  | [], W => Turned (fun _ => False) wz W
  | [v], W => Turned (fun _ => False) wz W ∧ ∃ g : Nat, v = .slice (some ⟨g, 0, none⟩) 3 3 ∧ LT.Sl (fun _ => True) W (some ⟨g, 0, none⟩) 3 [leaf 0 0 ByteArray.empty, leaf 0 1 ByteArray.empty, leaf 0 0 ByteArray.empty]
  | [_, v], W => Turned (fun _ => False) wz W ∧ ∃ u : LT, v = u.val ∧ u.bare = pT ∧ u.In (fun _ => True) W
  | _, _ => False
theorem Aw13.turned {wz : World} : ∀ (hs : List Value) (W : World), Aw13 wz hs W → Turned (fun _ => False) wz W
  | [], _, h => h
  | [_], _, h => h.1
  | [_, _], _, h => h.1
  | _ :: _ :: _ :: _, _, h => h.elim
theorem Aw13.turned0 {wz : World} : ∀ (hs : List Value) (w w' : World), Aw13 wz hs w → Turned (fun _ => False) w w' → Aw13 wz hs w'
  | [], _, _, h, ht => Turned.trans h ht
  | [_], _, _, h, ht => by obtain ⟨h1, g, h2, h3⟩ := h; exact ⟨h1.trans ht, g, h2, h3.turned0 ht⟩
  | [_, _], _, _, h, ht => by obtain ⟨h1, u, h2, h3, h4⟩ := h; exact ⟨h1.trans ht, u, h2, h3, h4.turned0 ht⟩
  | _ :: _ :: _ :: _, _, _, h, _ => h.elim
end Go.Proofs.Ytoihjobdfjajfaa
namespace Go.Proofs.Ytoihjobdfjajfaa
set_option linter.unusedVariables false
set_option linter.unusedSimpArgs false
open Go.RowKit Go.Maps
abbrev atA : LT := leaf 2 0 ⟨#[97]⟩
theorem leaf_slim (k n : Int) (s : ByteArray) : slim (leaf k n s) := by
  intro x hx
  simp only [leaf, Tm.flat, Tm.flats, List.mem_cons, List.not_mem_nil, or_false] at hx
  subst hx
  simp [Tm.args]
theorem atA_in {p : Nat → Prop} {w : World} : atA.In p w := leafIn' (i64_lit _ (by omega)) (i64_lit _ (by omega)) (by unfold maxLen; decide)
theorem var_in {p : Nat → Prop} {w : World} {n : Int} (h : I64 n) : (leaf 0 n ByteArray.empty).In p w := leafIn' (i64_lit _ (by omega)) h (by unfold maxLen; decide)
theorem awSetE : Tm.setE 1 (bt []) 0 atA.bare = 0 := by kernel_rfl
theorem atA_good : goodB atA.bare = true := by kernel_rfl
theorem sameB_eq {α β : Type} {a : Tm α} {b : Tm β} (h : a.bare = b.bare) (hg : goodB a.bare = true) : sameB a b = true := by
  unfold sameB
  have h1 : goodB a = true := by rw [← goodB_bare]; exact hg
  have h2 : goodB b = true := by rw [← goodB_bare, ← h]; exact hg
  rw [h1, h2, (Tm.same_iff a b).2 h]
  rfl
set_option maxRecDepth 10000 in
theorem aw_same {p : Nat → Prop} {w : World} {x : LT} (hx : x.In p w) (hb : x.bare = atA.bare) :
    Calls Try.prog 52 #[.agg #[.int .i64 x.kind, .int .i64 x.n, .string x.name, .slice x.at_.1 x.args.length x.at_.2], .agg #[.int .i64 2, .int .i64 0, .string ⟨#[97]⟩, .slice none 0 0]] w fun e w' => e = .returned (.bool true) ∧ Turned (fun _ => False) w w' :=
  sameVal' (p := p) (a := x) (b := atA) (w := w) (r := true) hx atA_in (slim_eq' hb.symm (leaf_slim _ _ _)) (leaf_slim _ _ _) (sameB_eq hb (by rw [hb]; exact atA_good))
section
variable {p : Nat → Prop} {bb sb m : Nat} {lv tv : Value} {l : TL} {w w' : World} {t : LT}
theorem aw_set (h : BI p bb sb lv tv 1 [] w) :
    Calls Try.prog 88 #[.pointer (some ⟨bb, 0, none⟩), .int .i64 0, .agg #[.int .i64 2, .int .i64 0, .string ⟨#[97]⟩, .slice none 0 0]] w fun e w' => e = .returned (.int .i64 0) ∧ ∃ tv' c y, BI p bb sb lv tv' 1 [(0, c, y)] w' ∧ y.bare = atA.bare ∧ Turned (fun k => k = sb ∨ lv.ownBlock = some k ∨ tv.ownBlock = some k) w w' := by
  refine (set88 h (t := atA) atA_in (leaf_slim _ _ _) 0 (i64_lit _ (by omega))).mono ?_
  rintro e w' ⟨rfl, ⟨tv', l', B, E, _, _⟩, T⟩
  rw [awSetE, if_pos rfl] at E
  refine ⟨by rw [awSetE], tv', ?_⟩
  have hl := congrArg List.length E
  rw [bt_length] at hl
  obtain ⟨⟨i, c, y⟩, rfl⟩ := List.length_eq_one_iff.1 hl
  simp only [bt, List.map_cons, List.map_nil, List.cons.injEq, Prod.mk.injEq, and_true] at E
  obtain ⟨rfl, e2⟩ := E
  exact ⟨c, y, B, e2, T⟩
theorem aw_walk {c : Nat} {y : LT} (h : BI p bb sb lv tv 1 [(0, c, y)] w) (hy : y.bare = atA.bare) :
    Calls Try.prog 90 #[.pointer (some ⟨bb, 0, none⟩), .agg #[.int .i64 0, .int .i64 0, .string ⟨#[]⟩, .slice none 0 0]] w fun e w' => ∃ x : LT, e = .returned x.val ∧ x.In p w' ∧ x.bare = atA.bare ∧ Turned (fun _ => False) w w' := by
  have hg : goodB (leaf 0 0 ByteArray.empty).bare = true := by kernel_rfl
  refine (walk90 h (t := leaf 0 0 ByteArray.empty) (var_in (i64_lit _ (by omega))) (Tm.good_ones' hg)).mono ?_
  rintro e w' ⟨x, rfl, hx, hb, T⟩
  refine ⟨x, rfl, hx, ?_, T⟩
  rw [hb, Tm.walkT_step h.ok (p := atA.bare) rfl (by show Tm.look [(0, y.bare)] 0 = _; rw [hy]; rfl), Tm.walkT_stop]
  intro e
  cases e
end
set_option maxRecDepth 100000 in
set_option maxHeartbeats 3200000 in
theorem awake84 (w : World) : Calls Try.prog 84 #[] w fun e w' => e = .returned (.bool true) ∧ Turned (fun _ => False) w w' := by
  go_enter Try.func84, Try.ntmps84
  go_wp2_with (first
    | (go_at_call 86; (with_reducible refine (newB86 (p := fun _ => False) _ (fun _ f => f.elim)).mono ?_); rintro e w1 ⟨rfl, B1, T1⟩; have HB1 := Lib.hid B1; clear B1)
    | (go_at_call 87; (with_reducible refine (fresh87 HB1.out (by omega)).mono ?_); rintro e w2 ⟨rfl, ⟨lv, B2, O2⟩, T2⟩; have HB2 := Lib.hid B2; have HO2 := Lib.hid O2; have HT2 := Lib.hid T2; clear B2 O2 T2)
    | (go_at_call 63; have hq := HX6.out; (with_reducible refine (atomV _ (by unfold maxLen; decide) _).mono ?_); rintro e w7 ⟨rfl, I7, T7⟩; have HX7 := Lib.hid (hq.1.turned0 T7); have HB7 := Lib.hid (hq.2.2.turned0 T7); have HT7 := Lib.hid T7; clear I7 T7 hq)
    | (go_at_call 63; (with_reducible refine (atomV _ (by unfold maxLen; decide) _).mono ?_); rintro e w3 ⟨rfl, I3, T3⟩; have HB3 := Lib.hid (HB2.out.turned0 (((Turned.refl (fun _ => False) w2).alloc (.cells #[.int .i64 0, .int .i64 0, .string ⟨#[]⟩, .slice none 0 0] 27)).trans T3)); have hbx := (T3.block w2.heap.size (by simp) (fun f => f)).trans (heap_alloc_new w2 (.cells #[.int .i64 0, .int .i64 0, .string ⟨#[]⟩, .slice none 0 0] 27)); have HBX := Lib.hid hbx; have HT3 := Lib.hid T3; clear I3 T3 hbx)
    | (go_at_call 88; (with_reducible refine (aw_set HB3.out).mono ?_); rintro e w4 ⟨rfl, tv4, c4, y4, B4, E4, T4⟩; have HB4 := Lib.hid B4; have hx4 := (T4.block w2.heap.size (Array.getElem?_eq_some_iff.1 HBX.out).1 (fun e => by have := HB2.out.own_lt w2.heap.size (e.elim (fun e => .inr (.inl e)) (fun e => .inr (.inr e))); omega)).trans HBX.out; obtain ⟨c0, c1, c2, c3, _⟩ := cells4 hx4; have HE4 := Lib.hid E4; have HT4 := Lib.hid T4; clear B4 E4 T4 hx4)
    | (go_at_call 90; (with_reducible refine (aw_walk HB4.out HE4.out).mono ?_); rintro e w6 ⟨x, rfl, hx6, hxb, T6⟩; rw [LT.val_eq]; have HX6 := Lib.hid (And.intro hx6 (And.intro hxb (HB4.out.turned0 T6))); have HT6 := Lib.hid T6; clear hx6 hxb T6)
    | (go_at_call 52; (with_reducible refine (aw_same HX7.out HX6.out.2.1).mono ?_); rintro e w8 ⟨rfl, T8⟩; have HB8 := Lib.hid (HB7.out.turned0 T8); have HT8 := Lib.hid T8; clear T8)
    | (go_at_call 111; (with_reducible refine (mark111 HB8.out).mono ?_); rintro e w9 ⟨rfl, T9⟩; have HB9 := Lib.hid (HB8.out.turned0 T9); have HT9 := Lib.hid T9; clear T9)
    | (go_at_call 107; (with_reducible refine (len107 HB9.out).mono ?_); rintro e w10 ⟨rfl, T10⟩; have HT10 := Lib.hid T10; clear T10))
  go_ret
  have hsz : w.heap.size ≤ w1.heap.size := T1.size
  have hlv : ∀ k, lv.ownBlock = some k → w.heap.size ≤ k := fun k hk => by
    rcases HO2.out with e | e
    · rw [e] at hk; simp [Value.ownBlock] at hk
    · have := e k hk; omega
  refine ⟨rfl, ?_⟩
  have R2 := T1.step HT2.out (fun i hi e => by
    rcases e with e | e
    · omega
    · simp [Value.ownBlock] at e)
  have R4 := ((R2.alloc (.cells #[.int .i64 0, .int .i64 0, .string ⟨#[]⟩, .slice none 0 0] 27)).trans HT3.out).step HT4.out (fun i hi e => by
    rcases e with e | e | e
    · omega
    · have := hlv i e; omega
    · simp [Value.ownBlock] at e)
  exact ((((R4.trans HT6.out).trans HT7.out).trans HT8.out).trans HT9.out).trans HT10.out
end Go.Proofs.Ytoihjobdfjajfaa
namespace Go.Proofs.Ytoihjobdfjajfaa
open Go.RowKit Go.Maps
set_option linter.unusedVariables false
set_option linter.unusedSimpArgs false
section
variable {p : Nat → Prop} {wb : Nat} {tv iv rv tv' iv' : Value} {us : List LT} {is : List Bool} {tr : List Int} {w w' : World}
theorem DB.fresh (h : DB p wb tv iv rv us is tr w) (hm : us.length < 65536) (ht : Turned (fun k => k = wb ∨ tv.ownBlock = some k ∨ iv.ownBlock = some k) w w') (hb : w'.heap[wb]? = some (.cells #[tv', iv', rv] 113 (0, 0)))
    (hr : Row w' 41 4 tv' (us.length + 1) (us.flatMap LT.cells ++ (leaf 0 0 ByteArray.empty : LT).cells)) (hi : Row w' 4 1 iv' (is.length + 1) (is.map Value.bool ++ [.bool false]))
    (ho : tv'.ownBlock = tv.ownBlock ∨ ∀ k, tv'.ownBlock = some k → w.heap.size ≤ k) (ho2 : iv'.ownBlock = iv.ownBlock ∨ ∀ k, iv'.ownBlock = some k → w.heap.size ≤ k) (hd : ∀ k, tv'.ownBlock = some k → iv'.ownBlock ≠ some k) :
    DB p wb tv' iv' rv (us ++ [leaf 0 0 ByteArray.empty]) (is ++ [false]) tr w' := by
  obtain ⟨n1, n2, n3, n4, n5⟩ := h.ne
  have hbl := (Array.getElem?_eq_some_iff.1 h.b).1
  have old : ∀ {a a' : Value}, (a'.ownBlock = a.ownBlock ∨ ∀ k, a'.ownBlock = some k → w.heap.size ≤ k) → ∀ q, q < w.heap.size → a'.ownBlock = some q → a.ownBlock = some q := fun ho q hq e => by
    rcases ho with ho | ho
    · exact ho ▸ e
    · have := ho q e; omega
  have hown : ∀ k, k < w.heap.size → ownD wb tv' iv' rv k → ownD wb tv iv rv k := by
    rintro k hk (rfl | hq | hq | hq)
    · exact .inl rfl
    · exact .inr (.inl (old ho k hk hq))
    · exact .inr (.inr (.inl (old ho2 k hk hq)))
    · exact .inr (.inr (.inr hq))
  refine ⟨hb, ?_, ?_, h.trail.turned ht (fun k hk e => ?_), by simp [h.same], (LT.ins_append _ _).2 ⟨LT.Ins.turned ht (fun k hk hq e => ?_) (fun _ _ q => q) _ h.ins, ?_⟩, by simp; omega, ⟨fun e => n1 (old ho _ hbl e), fun e => n2 (old ho2 _ hbl e), n3, fun k hk => ⟨hd k hk, fun e => ?_⟩, fun k hk e => ?_⟩, fun k hk => ⟨Nat.lt_of_lt_of_le (h.sep k hk).1 ht.size, fun c => (h.sep k hk).2 (hown k (h.sep k hk).1 c)⟩⟩
  · rw [List.length_append, List.flatMap_append]
    simpa using hr
  · rw [List.length_append, List.map_append]
    simpa using hi
  · rcases e with e | e | e
    · exact n3 (e ▸ hk)
    · exact (n4 k e).2 hk
    · exact n5 k e hk
  · refine (h.sep k hq).2 ?_
    rcases e with e | e | e
    · exact .inl e
    · exact .inr (.inl e)
    · exact .inr (.inr (.inl e))
  · exact ⟨var_in (i64_lit 0 (by omega)), trivial⟩
  · have hl := h.trail.lt k e
    exact (n4 k (old ho k hl hk)).2 e
  · have hl := h.trail.lt k e
    exact n5 k (old ho2 k hl hk) e
end
end Go.Proofs.Ytoihjobdfjajfaa
namespace Go.Proofs.Ytoihjobdfjajfaa
open Go.RowKit Go.Maps
set_option linter.unusedVariables false
set_option linter.unusedSimpArgs false
structure Chain (e : TypeId) (size : Nat) (tv : Value) (n : Nat) (xs news : List Value) (i j : Nat) (w0 : World) (hs : Hist) (W : World) : Prop where
  old : (∀ v, (j, v) ∉ hs) → Row W e size tv n xs
  one : ∀ v, (i, v) ∈ hs → (∀ x, (j, x) ∉ hs) → ∃ S, v = .slice (some ⟨S, 0, none⟩) 1 1 ∧ w0.heap.size ≤ S ∧ W.heap[S]? = some (.cells news.toArray e (0, 0))
  new : ∀ v, (j, v) ∈ hs → ∃ g cap, v = .slice (some ⟨g, 0, none⟩) (n + 1) cap ∧ Row W e size v (n + 1) (xs ++ news) ∧ (some g = tv.ownBlock ∨ w0.heap.size ≤ g)
section
variable {e : TypeId} {size : Nat} {tv : Value} {n : Nat} {xs news : List Value} {i j : Nat} {w0 W W' : World} {hs : Hist}
theorem Chain.start (h : Row w0 e size tv n xs) (T : Turned (fun _ => False) w0 W) : Chain e size tv n xs news i j w0 [] W :=
  ⟨fun _ => h.turned0 T, fun v h => (List.not_mem_nil h).elim, fun v h => (List.not_mem_nil h).elim⟩
theorem Chain.turned {S : Nat → Prop} (h : Chain e size tv n xs news i j w0 hs W) (T : Turned S W W') (hS : ∀ k, S k → k < w0.heap.size ∧ tv.ownBlock ≠ some k) : Chain e size tv n xs news i j w0 hs W' := by
  refine ⟨fun hn => (h.old hn).turned T (fun k hk c => (hS k c).2 hk), fun v hv hn => ?_, fun v hv => ?_⟩
  · obtain ⟨B, h1, h2, h3⟩ := h.one v hv hn
    exact ⟨B, h1, h2, (T.block B (Array.getElem?_eq_some_iff.1 h3).1 (fun c => by have := (hS B c).1; omega)).trans h3⟩
  · obtain ⟨g, cap, h1, h2, h3⟩ := h.new v hv
    refine ⟨g, cap, h1, h2.turned T (fun k hk c => ?_), h3⟩
    rw [h1] at hk
    simp only [Value.ownBlock, Option.some.injEq] at hk
    subst hk
    rcases h3 with h3 | h3
    · exact (hS _ c).2 h3.symm
    · have := (hS _ c).1; omega
theorem Chain.turned0 (h : Chain e size tv n xs news i j w0 hs W) (T : Turned (fun _ => False) W W') : Chain e size tv n xs news i j w0 hs W' := h.turned T (fun _ f => f.elim)
theorem Chain.other {q : Nat} {x : Value} (h : Chain e size tv n xs news i j w0 hs W) (hi : q ≠ i) (hj : q ≠ j) : Chain e size tv n xs news i j w0 (hs ++ [(q, x)]) W := by
  have ne : ∀ {a : Nat} {v : Value}, a ≠ q → (a, v) ∈ hs ++ [(q, x)] → (a, v) ∈ hs := fun ha hm => by
    rcases mem_snoc hm with hm | ⟨c, _⟩
    · exact hm
    · exact absurd c ha
  exact ⟨fun hn => h.old (fun v c => hn v (List.mem_append_left _ c)), fun v hv hn => h.one v (ne hi.symm hv) (fun x c => hn x (List.mem_append_left _ c)), fun v hv => h.new v (ne hj.symm hv)⟩
theorem Chain.laid (h : Chain e size tv n xs news i j w0 hs W) (hw : w0.heap.size ≤ W.heap.size) (hij : i ≠ j) (hno : ∀ v, (i, v) ∉ hs) : Chain e size tv n xs news i j w0 (hs ++ [(i, .slice (some ⟨W.heap.size, 0, none⟩) 1 1)]) (W.alloc (.cells news.toArray e)) := by
  have T : Turned (fun _ => False) W (W.alloc (.cells news.toArray e)) := (Turned.refl _ W).alloc _
  have hk := h.turned0 T
  refine ⟨fun hn => hk.old (fun v c => hn v (List.mem_append_left _ c)), fun v hv hn => ?_, fun v hv => ?_⟩
  · rcases mem_snoc hv with hm | ⟨_, c⟩
    · exact absurd hm (hno v)
    · exact ⟨_, c, hw, heap_alloc_new W _⟩
  · rcases mem_snoc hv with hm | ⟨c, _⟩
    · exact hk.new v hm
    · exact absurd c.symm hij
theorem Chain.appended {g cap : Nat} (hno : ∀ v, (j, v) ∉ hs) (hr : Row W' e size (.slice (some ⟨g, 0, none⟩) (n + 1) cap) (n + 1) (xs ++ news)) (hg : some g = tv.ownBlock ∨ w0.heap.size ≤ g) : Chain e size tv n xs news i j w0 (hs ++ [(j, .slice (some ⟨g, 0, none⟩) (n + 1) cap)]) W' := by
  refine ⟨fun hn => absurd (List.mem_append_right _ (List.mem_singleton.2 rfl)) (hn _), fun v hv hn => absurd (List.mem_append_right _ (List.mem_singleton.2 rfl)) (hn _), fun v hv => ?_⟩
  rcases mem_snoc hv with hm | ⟨_, c⟩
  · exact absurd hm (hno v)
  · subst c
    exact ⟨g, cap, rfl, hr, hg⟩
end
end Go.Proofs.Ytoihjobdfjajfaa
namespace Go.Proofs.Ytoihjobdfjajfaa
open Go.RowKit Go.Maps
set_option linter.unusedVariables false
set_option linter.unusedSimpArgs false
abbrev zc : List Value := (leaf 0 0 ByteArray.empty : LT).cells
structure FsR (wb : Nat) (tv iv rv : Value) (us : List LT) (is : List Bool) (w0 : World) (hs : Hist) (W : World) : Prop where
  t : Turned (fun k => k = wb ∨ tv.ownBlock = some k ∨ iv.ownBlock = some k) w0 W
  ct : Chain 41 4 tv us.length (us.flatMap LT.cells) zc 7 8 w0 hs W
  ci : Chain 4 1 iv is.length (is.map Value.bool) [.bool false] 13 14 w0 hs W
  blk : ∃ a b, W.heap[wb]? = some (.cells #[a, b, rv] 113 (0, 0)) ∧ ((∀ q, (17, q) ∉ hs) → a = tv) ∧ (∀ q, (17, q) ∈ hs → (8, a) ∈ hs) ∧ ((∀ q, (20, q) ∉ hs) → b = iv) ∧ ∀ q, (20, q) ∈ hs → (14, b) ∈ hs
section
variable {p : Nat → Prop} {wb : Nat} {tv iv rv : Value} {us : List LT} {is : List Bool} {tr : List Int} {w0 W W' : World} {hs : Hist}
theorem FsR.start (h : DB p wb tv iv rv us is tr w0) (T : Turned (fun _ => False) w0 W) : FsR wb tv iv rv us is w0 [] W := by
  have h' := h.turned0 T
  exact ⟨T.mono (fun _ _ f => f.elim), Chain.start h.row T, Chain.start h.bools T, tv, iv, h'.b, fun _ => rfl, fun q hq => (List.not_mem_nil hq).elim, fun _ => rfl, fun q hq => (List.not_mem_nil hq).elim⟩
theorem FsR.turned0 (h : FsR wb tv iv rv us is w0 hs W) (T : Turned (fun _ => False) W W') : FsR wb tv iv rv us is w0 hs W' := by
  obtain ⟨a, b, h1, h2, h3, h4, h5⟩ := h.blk
  exact ⟨h.t.trans (T.mono (fun _ _ f => f.elim)), h.ct.turned0 T, h.ci.turned0 T, a, b, (T.block wb (Array.getElem?_eq_some_iff.1 h1).1 (fun f => f)).trans h1, h2, h3, h4, h5⟩
theorem blk_other {q : Nat} {x : Value} (h7 : q ≠ 17) (h2 : q ≠ 20) (h : ∃ a b, W.heap[wb]? = some (.cells #[a, b, rv] 113 (0, 0)) ∧ ((∀ q, (17, q) ∉ hs) → a = tv) ∧ (∀ q, (17, q) ∈ hs → (8, a) ∈ hs) ∧ ((∀ q, (20, q) ∉ hs) → b = iv) ∧ ∀ q, (20, q) ∈ hs → (14, b) ∈ hs) :
    ∃ a b, W.heap[wb]? = some (.cells #[a, b, rv] 113 (0, 0)) ∧ ((∀ y, (17, y) ∉ hs ++ [(q, x)]) → a = tv) ∧ (∀ y, (17, y) ∈ hs ++ [(q, x)] → (8, a) ∈ hs ++ [(q, x)]) ∧ ((∀ y, (20, y) ∉ hs ++ [(q, x)]) → b = iv) ∧ ∀ y, (20, y) ∈ hs ++ [(q, x)] → (14, b) ∈ hs ++ [(q, x)] := by
  have ne : ∀ {a : Nat} {v : Value}, a ≠ q → (a, v) ∈ hs ++ [(q, x)] → (a, v) ∈ hs := fun ha hm => by
    rcases mem_snoc hm with hm | ⟨c, _⟩
    · exact hm
    · exact absurd c ha
  obtain ⟨a, b, g1, g2, g3, g4, g5⟩ := h
  exact ⟨a, b, g1, fun hn => g2 (fun y c => hn y (List.mem_append_left _ c)), fun y hy => List.mem_append_left _ (g3 y (ne h7.symm hy)), fun hn => g4 (fun y c => hn y (List.mem_append_left _ c)), fun y hy => List.mem_append_left _ (g5 y (ne h2.symm hy))⟩
theorem FsR.laidT (h : FsR wb tv iv rv us is w0 hs W) (hno : ∀ v, (7, v) ∉ hs) : FsR wb tv iv rv us is w0 (hs ++ [(7, .slice (some ⟨W.heap.size, 0, none⟩) 1 1)]) (W.alloc (.cells zc.toArray 41)) := by
  have T : Turned (fun _ => False) W (W.alloc (.cells zc.toArray 41)) := (Turned.refl _ W).alloc _
  have h' := h.turned0 T
  exact ⟨h'.t, h.ct.laid h.t.size (by decide) hno, h'.ci.other (by decide) (by decide), blk_other (by decide) (by decide) h'.blk⟩
theorem FsR.laidI (h : FsR wb tv iv rv us is w0 hs W) (hno : ∀ v, (13, v) ∉ hs) : FsR wb tv iv rv us is w0 (hs ++ [(13, .slice (some ⟨W.heap.size, 0, none⟩) 1 1)]) (W.alloc (.cells #[.bool false] 4)) := by
  have T : Turned (fun _ => False) W (W.alloc (.cells #[.bool false] 4)) := (Turned.refl _ W).alloc _
  have h' := h.turned0 T
  exact ⟨h'.t, h'.ct.other (by decide) (by decide), h.ci.laid h.t.size (by decide) hno, blk_other (by decide) (by decide) h'.blk⟩
end
end Go.Proofs.Ytoihjobdfjajfaa
namespace Go.Proofs.Ytoihjobdfjajfaa
open Go.RowKit Go.Maps
set_option linter.unusedVariables false
set_option linter.unusedSimpArgs false
section
variable {p : Nat → Prop} {wb : Nat} {tv iv rv : Value} {us : List LT} {is : List Bool} {tr : List Int} {w0 W W' : World} {hs : Hist}
theorem FsR.appT {g cap : Nat} (hd : DB p wb tv iv rv us is tr w0) (h : FsR wb tv iv rv us is w0 hs W) (hno : ∀ v, (8, v) ∉ hs) (T : Turned (fun k => tv.ownBlock = some k) W W') (hr : Row W' 41 4 (.slice (some ⟨g, 0, none⟩) (us.length + 1) cap) (us.length + 1) (us.flatMap LT.cells ++ zc)) (hg : some g = tv.ownBlock ∨ g = W.heap.size) :
    FsR wb tv iv rv us is w0 (hs ++ [(8, .slice (some ⟨g, 0, none⟩) (us.length + 1) cap)]) W' := by
  obtain ⟨n1, n2, n3, n4, n5⟩ := hd.ne
  obtain ⟨a, b, h1, h2, h3, h4, h5⟩ := h.blk
  refine ⟨h.t.step T (fun i hi e => .inr (.inl e)), Chain.appended hno hr (hg.imp_right fun e => by have := h.t.size; omega), (h.ci.turned T (fun k hk => ⟨hd.row.lt k hk, (n4 k hk).1⟩)).other (by decide) (by decide), ?_⟩
  exact blk_other (by decide) (by decide) ⟨a, b, (T.block wb (Array.getElem?_eq_some_iff.1 h1).1 n1).trans h1, h2, h3, h4, h5⟩
theorem FsR.appI {g cap : Nat} (hd : DB p wb tv iv rv us is tr w0) (h : FsR wb tv iv rv us is w0 hs W) (hno : ∀ v, (14, v) ∉ hs) (T : Turned (fun k => iv.ownBlock = some k) W W') (hr : Row W' 4 1 (.slice (some ⟨g, 0, none⟩) (is.length + 1) cap) (is.length + 1) (is.map Value.bool ++ [.bool false])) (hg : some g = iv.ownBlock ∨ g = W.heap.size) :
    FsR wb tv iv rv us is w0 (hs ++ [(14, .slice (some ⟨g, 0, none⟩) (is.length + 1) cap)]) W' := by
  obtain ⟨n1, n2, n3, n4, n5⟩ := hd.ne
  obtain ⟨a, b, h1, h2, h3, h4, h5⟩ := h.blk
  refine ⟨h.t.step T (fun i hi e => .inr (.inr e)), (h.ct.turned T (fun k hk => ⟨hd.bools.lt k hk, fun c => (n4 k c).1 hk⟩)).other (by decide) (by decide), Chain.appended hno hr (hg.imp_right fun e => by have := h.t.size; omega), ?_⟩
  exact blk_other (by decide) (by decide) ⟨a, b, (T.block wb (Array.getElem?_eq_some_iff.1 h1).1 n2).trans h1, h2, h3, h4, h5⟩
theorem turned_cell (W : World) (g j : Nat) (v : Value) : Turned (fun k => k = g) W (W.setCell ⟨g, j, none⟩ v) :=
  (Turned.refl (fun k => k = g) W).setCell (p := ⟨g, j, none⟩) (.inr rfl) v
theorem FsR.stT {v x : Value} (hd : DB p wb tv iv rv us is tr w0) (h : FsR wb tv iv rv us is w0 hs W) (h8 : (8, v) ∈ hs) : FsR wb tv iv rv us is w0 (hs ++ [(17, x)]) (W.setCell ⟨wb, 0, none⟩ v) := by
  obtain ⟨n1, n2, n3, n4, n5⟩ := hd.ne
  obtain ⟨a, b, h1, h2, h3, h4, h5⟩ := h.blk
  have T := turned_cell W wb 0 v
  have hl := (Array.getElem?_eq_some_iff.1 hd.b).1
  have hset := heap_setCell_same W wb 0 _ 113 v h1
  refine ⟨h.t.step T (fun i hi e => .inl e), (h.ct.turned T (fun k hk => ⟨by omega, fun c => n1 (by rw [c, hk])⟩)).other (by decide) (by decide), (h.ci.turned T (fun k hk => ⟨by omega, fun c => n2 (by rw [c, hk])⟩)).other (by decide) (by decide), v, b, by simpa using hset, fun hn => absurd (List.mem_append_right _ (List.mem_singleton.2 rfl)) (hn x), fun q hq => List.mem_append_left _ h8, fun hn => h4 (fun q c => hn q (List.mem_append_left _ c)), fun q hq => List.mem_append_left _ (h5 q ?_)⟩
  rcases mem_snoc hq with hm | ⟨c, _⟩
  · exact hm
  · cases c
theorem FsR.stI {v x : Value} (hd : DB p wb tv iv rv us is tr w0) (h : FsR wb tv iv rv us is w0 hs W) (h14 : (14, v) ∈ hs) : FsR wb tv iv rv us is w0 (hs ++ [(20, x)]) (W.setCell ⟨wb, 1, none⟩ v) := by
  obtain ⟨n1, n2, n3, n4, n5⟩ := hd.ne
  obtain ⟨a, b, h1, h2, h3, h4, h5⟩ := h.blk
  have T := turned_cell W wb 1 v
  have hl := (Array.getElem?_eq_some_iff.1 hd.b).1
  have hset := heap_setCell_same W wb 1 _ 113 v h1
  refine ⟨h.t.step T (fun i hi e => .inl e), (h.ct.turned T (fun k hk => ⟨by omega, fun c => n1 (by rw [c, hk])⟩)).other (by decide) (by decide), (h.ci.turned T (fun k hk => ⟨by omega, fun c => n2 (by rw [c, hk])⟩)).other (by decide) (by decide), a, v, by simpa using hset, fun hn => h2 (fun q c => hn q (List.mem_append_left _ c)), fun q hq => List.mem_append_left _ (h3 q ?_), fun hn => absurd (List.mem_append_right _ (List.mem_singleton.2 rfl)) (hn x), fun q hq => List.mem_append_left _ h14⟩
  rcases mem_snoc hq with hm | ⟨c, _⟩
  · exact hm
  · cases c
theorem FsR.done (hd : DB p wb tv iv rv us is tr w0) (hm : us.length < 65536) (h : FsR wb tv iv rv us is w0 hs W) (hall : ∀ i ∈ [7, 8, 13, 14, 17, 20], ∃ v, (i, v) ∈ hs) : ∃ tv' iv', DB p wb tv' iv' rv (us ++ [leaf 0 0 ByteArray.empty]) (is ++ [false]) tr W ∧ Turned (fun k => k = wb ∨ tv.ownBlock = some k ∨ iv.ownBlock = some k) w0 W ∧ (tv'.ownBlock = tv.ownBlock ∨ ∀ k, tv'.ownBlock = some k → w0.heap.size ≤ k) ∧ (iv'.ownBlock = iv.ownBlock ∨ ∀ k, iv'.ownBlock = some k → w0.heap.size ≤ k) := by
  obtain ⟨a, b, h1, h2, h3, h4, h5⟩ := h.blk
  obtain ⟨q, hq⟩ := hall 17 (by simp)
  obtain ⟨r, hr⟩ := hall 20 (by simp)
  obtain ⟨g, cap, rfl, r1, g1⟩ := h.ct.new _ (h3 q hq)
  obtain ⟨g', cap', rfl, r2, g2⟩ := h.ci.new _ (h5 r hr)
  have o1 : (Value.slice (some ⟨g, 0, none⟩) (us.length + 1) cap).ownBlock = tv.ownBlock ∨ ∀ k, (Value.slice (some ⟨g, 0, none⟩) (us.length + 1) cap).ownBlock = some k → w0.heap.size ≤ k := by
    rcases g1 with g1 | g1
    · exact .inl (by simpa [Value.ownBlock] using g1)
    · exact .inr (fun k hk => by simp [Value.ownBlock] at hk; omega)
  have o2 : (Value.slice (some ⟨g', 0, none⟩) (is.length + 1) cap').ownBlock = iv.ownBlock ∨ ∀ k, (Value.slice (some ⟨g', 0, none⟩) (is.length + 1) cap').ownBlock = some k → w0.heap.size ≤ k := by
    rcases g2 with g2 | g2
    · exact .inl (by simpa [Value.ownBlock] using g2)
    · exact .inr (fun k hk => by simp [Value.ownBlock] at hk; omega)
  refine ⟨_, _, hd.fresh hm h.t h1 r1 r2 o1 o2 (fun k k1 k2 => ?_), h.t, o1, o2⟩
  simp only [Value.ownBlock, Option.some.injEq] at k1 k2
  subst k1
  subst k2
  rcases r1.2 with ⟨c, _⟩ | ⟨x, xc, cur, e1, e2, _⟩
  · cases c
  rcases r2.2 with ⟨c, _⟩ | ⟨y, yc, cur', f1, f2, _⟩
  · cases c
  injection e1 with e1; injection e1 with e1; injection e1 with e1
  injection f1 with f1; injection f1 with f1; injection f1 with f1
  subst e1
  rw [← f1, e2] at f2
  injection f2 with f2
  injection f2 with _ f2
  cases f2
end
end Go.Proofs.Ytoihjobdfjajfaa
namespace Go.Proofs.Ytoihjobdfjajfaa
open Go.RowKit Go.Maps
set_option linter.unusedVariables false
set_option linter.unusedSimpArgs false
theorem rec3b {w : World} {bb : Nat} {x y z : Value} {T : TypeId} (h : w.heap[bb]? = some (.cells #[x, y, z] T (0, 0))) :
    w.cell? ⟨bb, 0, none⟩ = some x ∧ w.cell? ⟨bb, 1, none⟩ = some y ∧ w.cell? ⟨bb, 2, none⟩ = some z ∧ w.frozen? ⟨bb, 0, none⟩ = false ∧ w.frozen? ⟨bb, 1, none⟩ = false ∧ w.frozen? ⟨bb, 2, none⟩ = false :=
  ⟨by rw [cell_of_row w bb 0 _ T (0, 0) h]; rfl, by rw [cell_of_row w bb 1 _ T (0, 0) h]; rfl, by rw [cell_of_row w bb 2 _ T (0, 0) h]; rfl, frozen_of_row w bb 0 _ T h, frozen_of_row w bb 1 _ T h, frozen_of_row w bb 2 _ T h⟩
theorem infoB4 : (Try.prog.info? 4).map (fun i => (i.zero, i.size, i.bytes)) = some (some (.bool false), 1, 1) := by kernel_rfl
section
variable {p : Nat → Prop} {wb : Nat} {tv iv rv : Value} {us : List LT} {is : List Bool} {tr : List Int} {w : World}
set_option maxRecDepth 100000 in
set_option maxHeartbeats 6400000 in
theorem fresh103 (h : DB p wb tv iv rv us is tr w) (hm : us.length < 65536) :
    Calls Try.prog 103 #[.pointer (some ⟨wb, 0, none⟩)] w fun e w' => e = .returned (.tuple #[.agg #[.int .i64 0, .int .i64 (us.length : Int), .string ByteArray.empty, .slice none 0 0], .bool true]) ∧ ∃ tv' iv', DB p wb tv' iv' rv (us ++ [leaf 0 0 ByteArray.empty]) (is ++ [false]) tr w' ∧ Turned (fun k => k = wb ∨ tv.ownBlock = some k ∨ iv.ownBlock = some k) w w' ∧ (tv'.ownBlock = tv.ownBlock ∨ ∀ k, tv'.ownBlock = some k → w.heap.size ≤ k) ∧ (iv'.ownBlock = iv.ownBlock ∨ ∀ k, iv'.ownBlock = some k → w.heap.size ≤ k) := by
  obtain ⟨i0, hi0, hz0, hz1, hz2⟩ := info_parts infoR
  obtain ⟨i1, hi1, hy0, hy1, hy2⟩ := info_parts infoB4
  obtain ⟨a, c, rfl⟩ := h.row.shape
  have hmx := h.row.max
  obtain ⟨w2, hw2⟩ : ∃ z, z = w.alloc (.cells #[.int .i64 0, .int .i64 0, .string ⟨#[]⟩, .slice none 0 0] 41) := ⟨_, rfl⟩
  have T2 : Turned (fun _ => False) w w2 := by rw [hw2]; exact (Turned.refl _ w).alloc _
  have hb2 : w2.heap[w.heap.size]? = some (.cells #[.int .i64 0, .int .i64 0, .string ⟨#[]⟩, .slice none 0 0] 41 (0, 0)) := by rw [hw2]; exact heap_alloc_new w _
  have hd2 := h.turned0 T2
  have hb3 := hd2.b
  rw [hw2] at hb3
  obtain ⟨d0, d1, d2, g0, g1, g2⟩ := rec3b hb3
  have H := Lib.hid h
  have H2 := Lib.hid hd2
  have HT2 := Lib.hid T2
  have HB2 := Lib.hid hb2
  have HW2 := Lib.hid hw2
  have hge : decide (65536 ≤ (us.length : Int)) = false := decide_eq_false (by omega)
  have HM := Lib.hid hm
  clear h hd2 T2 hb2 hb3 hm hw2
  go_enter Try.func103, Try.ntmps103
  go_wp2_with fail
  rw [← HW2.out]
  clear d0 d1 d2 g0 g1 g2
  refine wp_region_k [11, 12, 13, 14, 15, 16, 17, 18, 19, 20, 21, 22, 23, 24, 25, 26, 27, 28, 29] [7, 8, 13, 14, 17, 20] [(18, 7), (19, 8), (24, 13), (25, 14)] (fun dd vv => (match dd with | 11 => vv = .pointer (some ⟨wb, 0, none⟩) | 12 => vv = .pointer (some ⟨wb, 0, none⟩) | 13 => vv = .pointer (some ⟨wb, 0, none⟩) | 14 => vv = .pointer (some ⟨wb, 0, none⟩) | 15 => vv = .pointer (some ⟨wb, 0, none⟩) | 16 => vv = .slice a us.length c | 17 => vv = .agg #[.int .i64 0, .int .i64 0, .string ⟨#[]⟩, .slice none 0 0] | 20 => vv = .pointer (some ⟨wb, 0, none⟩) | 21 => vv = .pointer (some ⟨wb, 0, none⟩) | 22 => vv = .pointer (some ⟨wb, 1, none⟩) | 23 => vv = iv | 26 => vv = .pointer (some ⟨wb, 0, none⟩) | 27 => vv = .pointer (some ⟨wb, 0, none⟩) | 28 => vv = .pointer (some ⟨wb, 0, none⟩) | 29 => vv = .pointer (some ⟨wb, 1, none⟩) | _ => True : Prop)) (FsR wb (.slice a us.length c) iv rv us is w2) (by kernel_rfl) rfl (by kernel_rfl) (by kernel_rfl) (fun w h => FsR.start H2.out h) (fun hs w w' h ht => h.turned0 ht) ?hs ?hQ
  case hs =>
    refine ⟨?s0, ?s1, ?s2, ?s3, ?s4, ?s5, ?s6, ?s7, ?s8, ?s9, ?s10, ?s11, ?s12, ?s13, ?s14, ?s15, ?s16, ?s17, ?s18, ?s19, ?s20, trivial⟩
    case s0 =>
      refine fun hs hl => stepG_free [] [0] (by kernel_rfl) rfl ?_
      intro ac W hT hI hO
      have h0 : ac.tmps.getD 0 undef = .pointer (some ⟨wb, 0, none⟩) := hO 0 (by simp)
      show Brings Try.prog (fun vv w' => Turned (fun _ => False) W w' ∧ vv = .pointer (some ⟨wb, 0, none⟩)) _
      simp only [execOp, Act.eval, h0]
      go_simp
      try exact ⟨Turned.refl _ _, rfl⟩
    case s1 =>
      refine fun hs hl => stepG_free [] [0] (by kernel_rfl) rfl ?_
      intro ac W hT hI hO
      have h0 : ac.tmps.getD 0 undef = .pointer (some ⟨wb, 0, none⟩) := hO 0 (by simp)
      show Brings Try.prog (fun vv w' => Turned (fun _ => False) W w' ∧ vv = .pointer (some ⟨wb, 0, none⟩)) _
      simp only [execOp, Act.eval, h0]
      go_simp
      try exact ⟨Turned.refl _ _, rfl⟩
    case s2 =>
      refine fun hs hl => stepG_free [] [0] (by kernel_rfl) rfl ?_
      intro ac W hT hI hO
      have h0 : ac.tmps.getD 0 undef = .pointer (some ⟨wb, 0, none⟩) := hO 0 (by simp)
      show Brings Try.prog (fun vv w' => Turned (fun _ => False) W w' ∧ vv = .pointer (some ⟨wb, 0, none⟩)) _
      simp only [execOp, Act.eval, h0]
      go_simp
      try exact ⟨Turned.refl _ _, rfl⟩
    case s3 =>
      refine fun hs hl => stepG_free [13] [] (by kernel_rfl) rfl ?_
      intro ac W hT hI hO
      have h13 : ac.tmps.getD 13 undef = .pointer (some ⟨wb, 0, none⟩) := hI 13 (by simp)
      show Brings Try.prog (fun vv w' => Turned (fun _ => False) W w' ∧ vv = .pointer (some ⟨wb, 0, none⟩)) _
      simp only [execOp, Act.eval, h13]
      go_simp
      try exact ⟨Turned.refl _ _, rfl⟩
    case s4 =>
      refine fun hs hl => stepG_free [14] [] (by kernel_rfl) rfl ?_
      intro ac W hT hI hO
      have h14 : ac.tmps.getD 14 undef = .pointer (some ⟨wb, 0, none⟩) := hI 14 (by simp)
      show Brings Try.prog (fun vv w' => Turned (fun _ => False) W w' ∧ vv = .pointer (some ⟨wb, 0, none⟩)) _
      simp only [execOp, Act.eval, h14]
      go_simp
      try exact ⟨Turned.refl _ _, rfl⟩
    case s5 =>
      refine fun hs hl => stepG_free [15] [] (by kernel_rfl) rfl ?_
      intro ac W hT hI hO
      have h15 : ac.tmps.getD 15 undef = .pointer (some ⟨wb, 0, none⟩) := hI 15 (by simp)
      show Brings Try.prog (fun vv w' => Turned (fun _ => False) W w' ∧ vv = .slice a us.length c) _
      obtain ⟨xa, xb, x1, x2, x3, x4, x5⟩ := hT.blk
      obtain rfl := x2 (fun q => hl 17 22 q (by kernel_rfl))
      obtain ⟨e0, e1, e2, _⟩ := rec3b x1
      simp only [execOp, Act.eval, h15]
      go_simp
      try exact ⟨Turned.refl _ _, rfl⟩
    case s6 =>
      refine fun hs hl => stepG_free [] [] (by kernel_rfl) rfl ?_
      intro ac W hT hI hO
      show Brings Try.prog (fun vv w' => Turned (fun _ => False) W w' ∧ vv = .agg #[.int .i64 0, .int .i64 0, .string ⟨#[]⟩, .slice none 0 0]) _
      simp only [execOp, Act.eval]
      go_simp
      try exact ⟨Turned.refl _ _, rfl⟩
    case s7 =>
      refine fun hs hno hl => stepG_free [17] [] (by kernel_rfl) rfl ?_
      intro ac W hT hI hO
      have h17 : ac.tmps.getD 17 undef = .agg #[.int .i64 0, .int .i64 0, .string ⟨#[]⟩, .slice none 0 0] := hI 17 (by simp)
      show Brings Try.prog (fun vv w' => FsR wb (.slice a us.length c) iv rv us is w2 (hs ++ [(7, vv)]) w') _
      have h17' : ac.tmps[17]?.getD undef = .agg #[.int .i64 0, .int .i64 0, .string ⟨#[]⟩, .slice none 0 0] := by rw [← Array.getD_eq_getD_getElem?]; exact h17
      simp only [execOp, Act.eval, h17]
      go_simp
      exact hT.laidT hno
    case s8 =>
      refine fun hs hno hl => stepG_free [16, 18] [] (by kernel_rfl) rfl ?_
      intro ac W hT hI hO
      have h16 : ac.tmps.getD 16 undef = .slice a us.length c := hI 16 (by simp)
      have h18 : (7, ac.tmps.getD 18 undef) ∈ hs := hI 18 (by simp)
      show Brings Try.prog (fun vv w' => FsR wb (.slice a us.length c) iv rv us is w2 (hs ++ [(8, vv)]) w') _
      obtain ⟨S, eS, _, hS⟩ := hT.ct.one _ h18 hno
      refine brings_append (.tmp 16) (.tmp 18) 39 rfl 41 i0 zeroR 4 56 Try.underlying39 hi0 hz0 hz1 hz2 rfl (by decide) _ _ _ h16 (hT.ct.old hno) ⟨S, 0, none⟩ 1 1 zc eS (LT.cells_length _) (news_block hS) (LT.cells_one _) (by omega) (by unfold maxLen; have := HM.out; omega) (by have := HM.out; omega) ?_
      intro g cap w' k1 k2 k3
      exact hT.appT H2.out hno k2 k1 k3
    case s9 =>
      refine fun hs hl => stepG_free [] [0] (by kernel_rfl) rfl ?_
      intro ac W hT hI hO
      have h0 : ac.tmps.getD 0 undef = .pointer (some ⟨wb, 0, none⟩) := hO 0 (by simp)
      show Brings Try.prog (fun vv w' => Turned (fun _ => False) W w' ∧ vv = .pointer (some ⟨wb, 0, none⟩)) _
      simp only [execOp, Act.eval, h0]
      go_simp
      try exact ⟨Turned.refl _ _, rfl⟩
    case s10 =>
      refine fun hs hl => stepG_free [20] [] (by kernel_rfl) rfl ?_
      intro ac W hT hI hO
      have h20 : ac.tmps.getD 20 undef = .pointer (some ⟨wb, 0, none⟩) := hI 20 (by simp)
      show Brings Try.prog (fun vv w' => Turned (fun _ => False) W w' ∧ vv = .pointer (some ⟨wb, 0, none⟩)) _
      simp only [execOp, Act.eval, h20]
      go_simp
      try exact ⟨Turned.refl _ _, rfl⟩
    case s11 =>
      refine fun hs hl => stepG_free [21] [] (by kernel_rfl) rfl ?_
      intro ac W hT hI hO
      have h21 : ac.tmps.getD 21 undef = .pointer (some ⟨wb, 0, none⟩) := hI 21 (by simp)
      show Brings Try.prog (fun vv w' => Turned (fun _ => False) W w' ∧ vv = .pointer (some ⟨wb, 1, none⟩)) _
      simp only [execOp, Act.eval, h21]
      go_simp
      try exact ⟨Turned.refl _ _, rfl⟩
    case s12 =>
      refine fun hs hl => stepG_free [22] [] (by kernel_rfl) rfl ?_
      intro ac W hT hI hO
      have h22 : ac.tmps.getD 22 undef = .pointer (some ⟨wb, 1, none⟩) := hI 22 (by simp)
      show Brings Try.prog (fun vv w' => Turned (fun _ => False) W w' ∧ vv = iv) _
      obtain ⟨xa, xb, x1, x2, x3, x4, x5⟩ := hT.blk
      obtain rfl := x4 (fun q => hl 20 22 q (by kernel_rfl))
      obtain ⟨e0, e1, e2, _⟩ := rec3b x1
      simp only [execOp, Act.eval, h22]
      go_simp
      try exact ⟨Turned.refl _ _, rfl⟩
    case s13 =>
      refine fun hs hno hl => stepG_free [] [] (by kernel_rfl) rfl ?_
      intro ac W hT hI hO
      show Brings Try.prog (fun vv w' => FsR wb (.slice a us.length c) iv rv us is w2 (hs ++ [(13, vv)]) w') _
      simp only [execOp, Act.eval]
      go_simp
      exact hT.laidI hno
    case s14 =>
      refine fun hs hno hl => stepG_free [23, 24] [] (by kernel_rfl) rfl ?_
      intro ac W hT hI hO
      have h23 : ac.tmps.getD 23 undef = iv := hI 23 (by simp)
      have h24 : (13, ac.tmps.getD 24 undef) ∈ hs := hI 24 (by simp)
      show Brings Try.prog (fun vv w' => FsR wb (.slice a us.length c) iv rv us is w2 (hs ++ [(14, vv)]) w') _
      obtain ⟨S, eS, _, hS⟩ := hT.ci.one _ h24 hno
      refine brings_append (.tmp 23) (.tmp 24) 56 rfl 4 i1 (.bool false) 1 1 Try.underlying56 hi1 hy0 hy1 hy2 rfl (by decide) _ _ _ h23 (hT.ci.old hno) ⟨S, 0, none⟩ 1 1 [.bool false] eS rfl (news_block hS) (by simp [Value.oneCell']) (by omega) (by unfold maxLen; have := HM.out; have := H2.out.same; omega) (by have := HM.out; have := H2.out.same; omega) ?_
      intro g cap w' k1 k2 k3
      exact hT.appI H2.out hno k2 k1 k3
    case s15 =>
      refine fun hs hl => stepG_free [11] [] (by kernel_rfl) rfl ?_
      intro ac W hT hI hO
      have h11 : ac.tmps.getD 11 undef = .pointer (some ⟨wb, 0, none⟩) := hI 11 (by simp)
      show Brings Try.prog (fun vv w' => Turned (fun _ => False) W w' ∧ vv = .pointer (some ⟨wb, 0, none⟩)) _
      simp only [execOp, Act.eval, h11]
      go_simp
      try exact ⟨Turned.refl _ _, rfl⟩
    case s16 =>
      refine fun hs hl => stepG_free [26] [] (by kernel_rfl) rfl ?_
      intro ac W hT hI hO
      have h26 : ac.tmps.getD 26 undef = .pointer (some ⟨wb, 0, none⟩) := hI 26 (by simp)
      show Brings Try.prog (fun vv w' => Turned (fun _ => False) W w' ∧ vv = .pointer (some ⟨wb, 0, none⟩)) _
      simp only [execOp, Act.eval, h26]
      go_simp
      try exact ⟨Turned.refl _ _, rfl⟩
    case s17 =>
      refine fun hs hno hl => stepG_free [27, 19] [] (by kernel_rfl) rfl ?_
      intro ac W hT hI hO
      have h27 : ac.tmps.getD 27 undef = .pointer (some ⟨wb, 0, none⟩) := hI 27 (by simp)
      have h19 : (8, ac.tmps.getD 19 undef) ∈ hs := hI 19 (by simp)
      obtain ⟨xa, xb, x1, x2, x3, x4, x5⟩ := hT.blk
      obtain ⟨e0, e1, e2, f0, f1, f2⟩ := rec3b x1
      show Brings Try.prog (fun vv w' => FsR wb (.slice a us.length c) iv rv us is w2 (hs ++ [(17, vv)]) w') _
      obtain ⟨g, cap, e19, _, _⟩ := hT.ct.new _ h19
      rw [e19] at h19
      simp only [execOp, Act.eval, h27, e19]
      go_simp
      exact hT.stT H2.out h19
    case s18 =>
      refine fun hs hl => stepG_free [12] [] (by kernel_rfl) rfl ?_
      intro ac W hT hI hO
      have h12 : ac.tmps.getD 12 undef = .pointer (some ⟨wb, 0, none⟩) := hI 12 (by simp)
      show Brings Try.prog (fun vv w' => Turned (fun _ => False) W w' ∧ vv = .pointer (some ⟨wb, 0, none⟩)) _
      simp only [execOp, Act.eval, h12]
      go_simp
      try exact ⟨Turned.refl _ _, rfl⟩
    case s19 =>
      refine fun hs hl => stepG_free [28] [] (by kernel_rfl) rfl ?_
      intro ac W hT hI hO
      have h28 : ac.tmps.getD 28 undef = .pointer (some ⟨wb, 0, none⟩) := hI 28 (by simp)
      show Brings Try.prog (fun vv w' => Turned (fun _ => False) W w' ∧ vv = .pointer (some ⟨wb, 1, none⟩)) _
      simp only [execOp, Act.eval, h28]
      go_simp
      try exact ⟨Turned.refl _ _, rfl⟩
    case s20 =>
      refine fun hs hno hl => stepG_free [29, 25] [] (by kernel_rfl) rfl ?_
      intro ac W hT hI hO
      have h29 : ac.tmps.getD 29 undef = .pointer (some ⟨wb, 1, none⟩) := hI 29 (by simp)
      have h25 : (14, ac.tmps.getD 25 undef) ∈ hs := hI 25 (by simp)
      obtain ⟨xa, xb, x1, x2, x3, x4, x5⟩ := hT.blk
      obtain ⟨e0, e1, e2, f0, f1, f2⟩ := rec3b x1
      show Brings Try.prog (fun vv w' => FsR wb (.slice a us.length c) iv rv us is w2 (hs ++ [(20, vv)]) w') _
      obtain ⟨g, cap, e25, _, _⟩ := hT.ci.new _ h25
      rw [e25] at h25
      simp only [execOp, Act.eval, h29, e25]
      go_simp
      exact hT.stI H2.out h25
  case hQ =>
    intro hs3 vs3 w3 hall huniq hR hV
    simp only [List.foldl_cons, List.foldl_nil, List.setIfInBounds_toArray, List.set_cons_zero, List.set_cons_succ]
    obtain ⟨tv3, iv3, hd3, T3, o1, o2⟩ := hR.done H2.out HM.out hall
    have hb3 := (T3.block w.heap.size (Array.getElem?_eq_some_iff.1 HB2.out).1 (fun e => by have := H.out.own_lt w.heap.size (e.elim .inl (fun e => e.elim (fun e => .inr (.inl e)) (fun e => .inr (.inr (.inl e))))); omega)).trans HB2.out
    obtain ⟨a3, c3, rfl⟩ := hd3.row.shape
    obtain ⟨e0, e1, e2, _⟩ := rec3b hd3.b
    rw [show (us ++ [leaf 0 0 ByteArray.empty]).length = us.length + 1 from by simp] at e0
    obtain ⟨c0, c1, c2, c4, f0, f1, f2, f3⟩ := cells4 hb3
    have HD3 := Lib.hid hd3
    have HT3 := Lib.hid T3
    have HO := Lib.hid (And.intro o1 o2)
    have HB3 := Lib.hid hb3
    have hz3 : ((us.length : Int) + 1 - 1) = (us.length : Int) := by omega
    clear hR hV hall huniq hd3 T3 o1 o2 hb3
    go_wp2_with fail
    have hset := set4 (a' := .int .i64 0) (b' := .int .i64 (us.length : Int)) (c' := .string ByteArray.empty) (d' := .slice none 0 0) HB3.out
    have Tq := turned_store4 w3 w.heap.size (.int .i64 0) (.int .i64 (us.length : Int)) (.string ByteArray.empty) (.slice none 0 0)
    have hs2 : w2.heap.size = w.heap.size + 1 := by rw [HW2.out]; simp
    obtain ⟨o1, o2⟩ := HO.out
    refine bodyPost_ret (results_cell_tmp1 Try.results103 _ _ w.heap.size 41 _ (0, 0) _ rfl hset Try.underlying41 rfl (by kernel_rfl)) rfl ⟨rfl, _, _, HD3.out.turned Tq (fun k _ hk => ⟨fun c => ?_, fun c => by have := (H.out.sep k c).1; omega⟩), ((HT2.out.mono (fun _ _ f => f.elim)).trans HT3.out).step Tq (fun i hi e => by omega), o1.imp_right (fun o k hk => by have := o k hk; omega), o2.imp_right (fun o k hk => by have := o k hk; omega)⟩
    rcases c with c | c | c | c
    · have := H.out.own_lt wb (.inl rfl); omega
    · rcases o1 with o | o
      · have := H.out.own_lt k (.inr (.inl (o ▸ c))); omega
      · have := o k c; omega
    · rcases o2 with o | o
      · have := H.out.own_lt k (.inr (.inr (.inl (o ▸ c)))); omega
      · have := o k c; omega
    · have := H.out.own_lt k (.inr (.inr (.inr c))); omega
end
end Go.Proofs.Ytoihjobdfjajfaa
namespace Go.Proofs.Ytoihjobdfjajfaa
set_option linter.unusedVariables false
set_option linter.unusedSimpArgs false
namespace Tm
noncomputable def UR.andThen (r : UR) (b : List (Tm Unit × Tm Unit)) : UR :=
  match r with
  | .ok l left => unify l left b
  | .no q => .no q
  | .over => .over
end Tm
end Go.Proofs.Ytoihjobdfjajfaa
namespace Go.Proofs.Ytoihjobdfjajfaa
open Go.RowKit Go.Maps
set_option linter.unusedVariables false
set_option linter.unusedSimpArgs false
structure DT (m : Nat) (l : Tm.Trail) (us : List LT) (is : List Bool) (tr : List Int) : Prop where
  ok : Tm.okT m l
  len : us.length = m
  set : ∀ i : Nat, i < m → is[i]? = some (decide ((i : Int) ∈ Tm.dom l))
  val : ∀ (i : Int) (t : Tm Unit), Tm.look l i = some t → ∃ u : LT, us[i.toNat]? = some u ∧ u.bare = t
  tr : tr = (Tm.dom l).reverse
structure DO (p : Nat → Prop) (wb : Nat) (O : Nat → Prop) (m : Nat) (l : Tm.Trail) (w : World) : Prop where
  db : ∃ tv iv rv us is tr, DB p wb tv iv rv us is tr w ∧ DT m l us is tr ∧ ∀ k, ownD wb tv iv rv k → O k
  lt : ∀ k, O k → k < w.heap.size
  sep : ∀ k, p k → ¬ O k
section
variable {p q O O' S : Nat → Prop} {wb m : Nat} {l : Tm.Trail} {w w' : World} {t : LT}
theorem DO.ok (h : DO p wb O m l w) : Tm.okT m l := by obtain ⟨_, _, _, _, _, _, _, T, _⟩ := h.db; exact T.ok
theorem DO.most (h : DO p wb O m l w) : m ≤ 65536 := by obtain ⟨_, _, _, _, _, _, D, T, _⟩ := h.db; have := D.most; have := T.len; omega
theorem DO.plt (h : DO p wb O m l w) : ∀ k, p k → k < w.heap.size := by obtain ⟨_, _, _, _, _, _, D, _⟩ := h.db; exact fun k hk => (D.sep k hk).1
theorem DO.turned (h : DO p wb O m l w) (T : Turned S w w') (hS : ∀ k, k < w.heap.size → S k → ¬ O k ∧ ¬ p k) : DO p wb O m l w' := by
  obtain ⟨tv, iv, rv, us, is, tr, D, R, hO⟩ := h.db
  exact ⟨⟨tv, iv, rv, us, is, tr, D.turned T (fun k hk e => ⟨fun c => (hS k hk e).1 (hO k c), (hS k hk e).2⟩), R, hO⟩, fun k hk => Nat.lt_of_lt_of_le (h.lt k hk) T.size, h.sep⟩
theorem DO.turned0 (h : DO p wb O m l w) (T : Turned (fun _ => False) w w') : DO p wb O m l w' := h.turned T (fun _ _ f => f.elim)
theorem DO.more (h : DO p wb O m l w) (hO : ∀ k, O k → O' k) (hl : ∀ k, O' k → k < w.heap.size) (hs : ∀ k, p k → ¬ O' k) : DO p wb O' m l w := by
  obtain ⟨tv, iv, rv, us, is, tr, D, R, h1⟩ := h.db
  exact ⟨⟨tv, iv, rv, us, is, tr, D, R, fun k hk => hO k (h1 k hk)⟩, hl, hs⟩
theorem DB.wide {tv iv rv : Value} {us : List LT} {is : List Bool} {tr : List Int} (h : DB p wb tv iv rv us is tr w) (hp : ∀ k, p k → q k) (hq : ∀ k, q k → k < w.heap.size ∧ ¬ ownD wb tv iv rv k) : DB q wb tv iv rv us is tr w :=
  ⟨h.b, h.row, h.bools, h.trail, h.same, (LT.ins_iff _).2 (fun x hx => ((LT.ins_iff _).1 h.ins x hx).mono (fun k _ hk => hp k hk)), h.most, h.ne, hq⟩
theorem DO.wide (h : DO p wb O m l w) (hp : ∀ k, p k → q k) (hq : ∀ k, q k → k < w.heap.size ∧ ¬ O k) : DO q wb O m l w := by
  obtain ⟨tv, iv, rv, us, is, tr, D, R, h1⟩ := h.db
  exact ⟨⟨tv, iv, rv, us, is, tr, D.wide hp (fun k hk => ⟨(hq k hk).1, fun c => (hq k hk).2 (h1 k c)⟩), R, h1⟩, h.lt, fun k hk => (hq k hk).2⟩
def AfterD (p : Nat → Prop) (wb : Nat) (O : Nat → Prop) (m : Nat) (l : Tm.Trail) (w w' : World) : Prop :=
  ∃ O' : Nat → Prop, DO p wb O' m l w' ∧ (∀ k, O' k → k < w.heap.size → O k) ∧ Turned O w w'
theorem AfterD.turned0 {w2 : World} (h : AfterD p wb O m l w w') (T : Turned (fun _ => False) w' w2) : AfterD p wb O m l w w2 := by
  obtain ⟨O', h1, h2, h3⟩ := h
  exact ⟨O', h1.turned0 T, h2, h3.trans (T.mono (fun _ _ f => f.elim))⟩
theorem AfterD.trans {m' m2 : Nat} {l' l2 : Tm.Trail} {w2 : World} (h : AfterD p wb O m' l' w w') (h2 : ∀ O', DO p wb O' m' l' w' → AfterD p wb O' m2 l2 w' w2) : AfterD p wb O m2 l2 w w2 := by
  obtain ⟨O', a1, a2, a3⟩ := h
  obtain ⟨O2, b1, b2, b3⟩ := h2 O' a1
  refine ⟨O2, b1, fun k hk hl => a2 k (b2 k hk (Nat.lt_of_lt_of_le hl a3.size)) hl, a3.step b3 (fun i hi e => a2 i e hi)⟩
theorem newD (w : World) (hp : ∀ k, p k → k < w.heap.size) : DO p w.heap.size (fun k => w.heap.size ≤ k ∧ k < w.heap.size + 1) 0 [] (w.alloc (.cells #[.slice none 0 0, .slice none 0 0, .slice none 0 0] 113)) := by
  refine ⟨⟨_, _, _, [], [], [], DB.none hp, ⟨trivial, rfl, fun i hi => absurd hi (Nat.not_lt_zero _), fun i t h => (by cases h), rfl⟩, fun k hk => ?_⟩, fun k hk => (by simp; omega), fun k hk c => by have := hp k hk; omega⟩
  rcases hk with e | e | e | e
  · omega
  · simp [Value.ownBlock] at e
  · simp [Value.ownBlock] at e
  · simp [Value.ownBlock] at e
theorem freshD (h : DO p wb O m l w) (hm : m < 65536) :
    Calls Try.prog 103 #[.pointer (some ⟨wb, 0, none⟩)] w fun e w' => e = .returned (.tuple #[.agg #[.int .i64 0, .int .i64 (m : Int), .string ByteArray.empty, .slice none 0 0], .bool true]) ∧ AfterD p wb O (m + 1) l w w' := by
  obtain ⟨tv, iv, rv, us, is, tr, D, R, hO⟩ := h.db
  have hl := R.len
  refine (fresh103 D (by omega)).mono ?_
  rintro e w' ⟨rfl, tv', iv', D', T, o1, o2⟩
  have hold : ∀ k, ownD wb tv' iv' rv k → k < w.heap.size → ownD wb tv iv rv k := fun k hk hl => by
    rcases hk with e | e | e | e
    · exact .inl e
    · rcases o1 with o | o
      · exact .inr (.inl (o ▸ e))
      · have := o k e; omega
    · rcases o2 with o | o
      · exact .inr (.inr (.inl (o ▸ e)))
      · have := o k e; omega
    · exact .inr (.inr (.inr e))
  have hnd : ((us.length : Nat) : Int) ∉ Tm.dom l := fun c => by
    obtain ⟨b, hb, e⟩ := List.mem_map.1 c
    have := (Tm.okT_mem R.ok hb).2.1
    omega
  have his : is.length = m := by rw [D.same]; exact hl
  refine ⟨by rw [hl], fun k => ownD wb tv' iv' rv k ∨ (O k ∧ k < w.heap.size), ⟨⟨tv', iv', rv, _, _, tr, D', ⟨R.ok.more (Nat.le_succ m), by rw [List.length_append, hl]; rfl, ?_, ?_, R.tr⟩, fun k hk => .inl hk⟩, fun k hk => hk.elim (D'.own_lt k) (fun e => Nat.lt_of_lt_of_le e.2 T.size), fun k hk c => ?_⟩, fun k hk hl => hk.elim (fun c => hO k (hold k c hl)) (fun e => e.1), T.mono (fun k _ e => hO k (e.elim .inl (fun e => e.elim (fun e => .inr (.inl e)) (fun e => .inr (.inr (.inl e))))))⟩
  · intro i hi
    rcases Nat.lt_or_ge i m with h1 | h1
    · rw [List.getElem?_append_left (by omega)]; exact R.set i h1
    · obtain rfl : i = us.length := by omega
      rw [List.getElem?_append_right (by omega), show us.length - is.length = 0 by omega, decide_eq_false hnd]
      rfl
  · intro i t hi
    obtain ⟨u, hu, hb⟩ := R.val i t hi
    exact ⟨u, by rw [List.getElem?_append_left (List.getElem?_eq_some_iff.1 hu).1]; exact hu, hb⟩
  · rcases c with c | c
    · exact (D'.sep k hk).2 c
    · exact h.sep k hk c.1
end
end Go.Proofs.Ytoihjobdfjajfaa
namespace Go.Proofs.Ytoihjobdfjajfaa
set_option linter.unusedVariables false
set_option linter.unusedSimpArgs false
namespace Tm
theorem hasL_false {M : Nat} {n : Int} (l : List (Tm Unit)) : ∀ {c : Nat}, c ≤ M → (hasL M n c l).1 = false → (hasL M n c l).2 ≤ M := by
  induction l with
  | nil => intro c h _; exact h
  | cons x l ih =>
    intro c h hf
    simp only [hasL] at hf ⊢
    split at hf
    · cases hf
    · rename_i h1
      rw [if_neg h1]
      exact ih (by omega) hf
theorem hasL_arg {M : Nat} {n : Int} {f : Tm Unit → Tm Unit} {l : List (Tm Unit)} {j c : Nat} {x : Tm Unit} (hx : l[j]? = some x) (R : Bool × Nat) (h : hasL M n c (flats ((l.drop j).map f)) = R) :
    ((hasL M n c (f x).flat).1 = true → R = hasL M n c (f x).flat) ∧ ((hasL M n c (f x).flat).1 = false → hasL M n (hasL M n c (f x).flat).2 (flats ((l.drop (j + 1)).map f)) = R) := by
  have hj := (List.getElem?_eq_some_iff.1 hx)
  have e : l.drop j = x :: l.drop (j + 1) := by
    obtain ⟨h1, h2⟩ := hj
    rw [List.drop_eq_getElem_cons h1, h2]
  rw [e, List.map_cons, flats, hasL_append] at h
  constructor
  · intro h1; rw [if_pos h1] at h; exact h.symm
  · intro h1; rw [if_neg (by rw [h1]; exact Bool.false_ne_true)] at h; exact h
theorem hasL_end {M : Nat} {n : Int} {f : Tm Unit → Tm Unit} {l : List (Tm Unit)} {j c : Nat} (hj : l.length ≤ j) (R : Bool × Nat) (h : hasL M n c (flats ((l.drop j).map f)) = R) : R = (false, c) := by
  rw [List.drop_eq_nil_of_le hj] at h
  exact h.symm
theorem hasL_walked_var {m M : Nat} {l : Trail} {n : Int} {t x : Tm Unit} {c : Nat} (hl : okT m l) (h : Walked m l t x) (hk : x.kind = 0) : hasL M n c (img l t).flat = (decide (M < c + 1 ∨ x.n = n), c + 1) := by
  rw [h.flat_var hl hk]
  simp only [hasL]
  by_cases h1 : M < c + 1 ∨ x.n = n
  · rw [if_pos (h1.imp id (fun e => ⟨hk, e⟩)), decide_eq_true h1]
  · rw [if_neg (fun c => h1 (c.imp id (fun e => e.2))), decide_eq_false h1]
theorem hasL_walked_node {m M : Nat} {l : Trail} {n : Int} {t x : Tm Unit} {c : Nat} (hl : okT m l) (h : Walked m l t x) (hk : ¬ x.kind = 0) :
    (M < c + 1 → hasL M n c (img l t).flat = (true, c + 1)) ∧ (c + 1 ≤ M → hasL M n (c + 1) (flats ((x.args.drop 0).map (img l))) = hasL M n c (img l t).flat) := by
  obtain ⟨h1, h2⟩ := h.flat_node hl hk
  rw [h1]
  simp only [hasL, List.drop_zero]
  constructor
  · intro hc; rw [if_pos (.inl hc)]
  · intro hc; rw [if_neg (fun e => e.elim (fun e => by omega) (fun e => h2 e.1))]
end Tm
end Go.Proofs.Ytoihjobdfjajfaa
namespace Go.Proofs.Ytoihjobdfjajfaa
open Go.RowKit Go.Maps
set_option linter.unusedVariables false
set_option linter.unusedSimpArgs false
theorem DO.parts {p O : Nat → Prop} {wb m : Nat} {l : Tm.Trail} {w : World} (h : DO p wb O m l w) :
    ∃ (ta ia ra : Option Addr) (tc ic rc : Nat) (us : List LT) (is : List Bool), DB p wb (.slice ta m tc) (.slice ia m ic) (.slice ra l.length rc) us is (Tm.dom l).reverse w ∧ DT m l us is (Tm.dom l).reverse ∧ us.length = m ∧ is.length = m ∧ (∀ k, ownD wb (.slice ta m tc) (.slice ia m ic) (.slice ra l.length rc) k → O k) := by
  obtain ⟨tv, iv, rv, us, is, tr, D, R, hO⟩ := h.db
  obtain ⟨ta, tc, rfl⟩ := D.row.shape
  obtain ⟨ia, ic, rfl⟩ := D.bools.shape
  obtain ⟨ra, rc, rfl⟩ := D.trail.shape
  have h1 := R.len
  have h2 : is.length = m := D.same.trans h1
  have h3 := R.tr
  subst h3
  have h4 : (Tm.dom l).reverse.length = l.length := by unfold Tm.dom; rw [List.length_reverse, List.length_map]
  rw [h1, h2, h4] at D
  rw [h1, h2, h4] at hO
  exact ⟨ta, ia, ra, tc, ic, rc, us, is, D, R, h1, h2, hO⟩
structure WalkD (p : Nat → Prop) (l : Tm.Trail) (t : LT) (w0 : World) (x : LT) : Prop where
  inn : x.In p w0
  ones : ∀ z ∈ x.bare.flat, goodOneB z = true
  on : Tm.walkT l x.bare = Tm.walkT l t.bare
theorem WalkD.step {p : Nat → Prop} {m : Nat} {l : Tm.Trail} {w : World} {t x y : LT} {b : Tm Unit} (ho : Tm.okT m l) (h : WalkD p l t w x) (hk : x.kind = 0) (hl : Tm.look l x.n = some b) (hy : y.In p w) (hb : y.bare = b) : WalkD p l t w y ∧ Tm.walkG l y.bare < Tm.walkG l x.bare := by
  subst hb
  have hm := Tm.okT_mem ho (Tm.look_mem hl)
  rw [← Tm.bare_n x] at hl
  have hk' : x.bare.kind = 0 := by rw [Tm.bare_kind]; exact hk
  exact ⟨⟨hy, Tm.good_ones' hm.2.2.1, by rw [← Tm.walkT_step ho hk' hl]; exact h.on⟩, Tm.walkG_lt ho hk' hl⟩
theorem WalkD.done {p : Nat → Prop} {l : Tm.Trail} {w : World} {t x : LT} (h : WalkD p l t w x) (hk : x.kind = 0 → x.n ∉ Tm.dom l) : x.bare = Tm.walkT l t.bare := by
  rw [← h.on, Tm.walkT_stop (fun e => ?_)]
  rw [Tm.bare_kind] at e
  rw [Tm.bare_n]
  exact Tm.look_none.2 (hk e)
def WalkDR (p : Nat → Prop) (l : Tm.Trail) (t : LT) (B : Nat) (w0 : World) (k : Nat) (wr : World) : Prop :=
  ∃ x : LT, Hid (Tm.walkG l x.bare = k) ∧ Hid (WalkD p l t w0 x) ∧ wr.heap[B]? = some (.cells #[.int .i64 x.kind, .int .i64 x.n, .string x.name, .slice x.at_.1 x.args.length x.at_.2] 41 (0, 0)) ∧ wr.heap[B + 1]? = some (.cells #[.int .i64 0, .int .i64 0, .string ⟨#[]⟩, .slice none 0 0] 41 (0, 0)) ∧ Turned (fun _ => False) w0 wr
set_option maxRecDepth 100000 in
set_option maxHeartbeats 3200000 in
theorem walk170 {p O : Nat → Prop} {wb m : Nat} {l : Tm.Trail} {w : World} {t : LT} (h : DO p wb O m l w) (ht : t.In p w) (hg : ∀ z ∈ t.bare.flat, goodOneB z = true) :
    Calls Try.prog 170 #[.pointer (some ⟨wb, 0, none⟩), t.val] w fun e w' => ∃ x : LT, e = .returned x.val ∧ x.In p w' ∧ x.bare = Tm.walkT l t.bare ∧ Turned (fun _ => False) w w' := by
  have h2 := twoBox w (.cells #[.int .i64 t.kind, .int .i64 t.n, .string t.name, .slice t.at_.1 t.args.length t.at_.2] 41) (.cells #[.int .i64 0, .int .i64 0, .string ⟨#[]⟩, .slice none 0 0] 41)
  have hst : Hid (WalkD p l t w t) := ⟨ht, hg, rfl⟩
  obtain ⟨ta, ia, ra, tc, ic, rc, us, is, D0, R, hlu, hli, hO⟩ := h.parts
  have HD0 := Lib.hid D0
  have HR := Lib.hid R
  have hm65 := h.most
  have H := Lib.hid h
  have H2 := Lib.hid h2
  clear h ht hg h2 D0 R hO
  rw [LT.val_eq]
  go_enter Try.func170, Try.ntmps170
  go_wp2_with fail
  revert H2
  generalize ((w.alloc (.cells #[.int .i64 t.kind, .int .i64 t.n, .string t.name, .slice t.at_.1 t.args.length t.at_.2] 41)).alloc (.cells #[.int .i64 0, .int .i64 0, .string ⟨#[]⟩, .slice none 0 0] 41)) = w2
  intro H2
  go_loopg [] (Tm.walkG l t.bare) (fun k wr => WalkDR p l t w.heap.size w k wr)
  case atStart => exact ⟨t, rfl, hst, H2.out.2.2.1, H2.out.2.2.2, H2.out.1⟩
  case round =>
    obtain ⟨x, HG, HI, hb0, hb1, hT⟩ := hrel
    obtain ⟨x0, x1, x2, x3, _⟩ := cells4 hb0
    obtain ⟨z0, z1, z2, z3, f0, f1, f2, f3⟩ := cells4 hb1
    have HB0 := Lib.hid hb0
    have HB1 := Lib.hid hb1
    clear hb0 hb1
    by_cases hk : x.kind = 0
    · have hkx : (x.kind == 0) = true := by simp [hk]
      have h0 : 0 ≤ x.n := by
        have := HI.out.ones x.bare (by rw [Tm.flat_eq]; exact List.mem_cons_self ..)
        rw [goodOneB_bare, goodOneB_0 x hk] at this
        simp only [Bool.and_eq_true, decide_eq_true_eq] at this
        exact this.1
      have hge : decide (0 ≤ x.n) = true := decide_eq_true h0
      have HK := Lib.hid hk
      clear hk
      have D := HD0.out.turned0 hT
      have R := HR.out
      obtain ⟨b0, b1, b2, _⟩ := rec3b D.b
      by_cases hm : x.n < (m : Int)
      · have hlt : decide (x.n < (m : Int)) = true := decide_eq_true hm
        have hset := R.set x.n.toNat (by omega)
        rw [Int.toNat_of_nonneg h0] at hset
        have hbs := D.bools
        have hts := D.row
        rw [hli] at hbs
        rw [hlu] at hts
        obtain ⟨gi, ci, hie⟩ := hbs.shape_pos (by omega)
        injection hie with e1 _ e3
        subst e1 e3
        have hrow := hbs.cells rfl x.n.toNat (.bool (decide (x.n ∈ Tm.dom l))) (by rw [List.getElem?_map, hset]; rfl)
        cases hlk0 : Tm.look l x.n with
        | none =>
          rw [decide_eq_false (Tm.look_none.1 hlk0)] at hrow
          have hdone := HI.out.done (fun _ => Tm.look_none.1 hlk0)
          have HD := Lib.hid hdone
          clear hlk0 hdone D R hset hbs hts
          go_wp2_with fail
          go_quiet (fail)
          go_wp2_with fail
          have hbq : (wr.drewN nq).heap[w.heap.size + 1]? = _ := HB1.out
          have hset := set4 (a' := .int .i64 x.kind) (b' := .int .i64 x.n) (c' := .string x.name) (d' := .slice x.at_.1 x.args.length x.at_.2) hbq
          have T4 := turned4 (a := .int .i64 x.kind) (b := .int .i64 x.n) (c := .string x.name) (d := .slice x.at_.1 x.args.length x.at_.2) (hT.drewN nq) (g := w.heap.size + 1) (by omega)
          refine bodyPost_ret (v := .agg #[.int .i64 x.kind, .int .i64 x.n, .string x.name, .slice x.at_.1 x.args.length x.at_.2]) (results_cell_row Try.results170 _ _ (w.heap.size + 1) 41 _ (0, 0) _ rfl hset Try.underlying41 rfl (by kernel_rfl)) rfl ⟨x, by rw [LT.val_eq], HI.out.inn.turned0 T4, HD.out, T4⟩
        | some b =>
          rw [decide_eq_true (show x.n ∈ Tm.dom l from Classical.not_not.1 (fun c => by rw [Tm.look_none.2 c] at hlk0; cases hlk0))] at hrow
          obtain ⟨y, hy, hyb⟩ := R.val x.n b hlk0
          have hyl := (LT.ins_iff _).1 HD0.out.ins y (List.mem_of_getElem? hy)
          have HS := Lib.hid (HI.out.step (y := y) H.out.ok HK.out hlk0 hyl hyb)
          obtain ⟨gt, hgt, y0, y1, y2, y3⟩ := row_at hts hy
          subst hgt
          clear hlk0 hset hy hyb D R hyl hbs hts
          go_wp2_with fail
          go_quiet (fail)
          go_wp2_with fail
          refine region_tail 8 (by kernel_rfl) (by kernel_rfl) ?_
          simp only [List.take_succ_cons, List.take_zero, List.drop_succ_cons, List.drop_zero]
          repeat still_step
          refine wpStill_nil ?_
          go_wp2_with fail
          have hbq : ((wr.drewN nq).drew).heap[w.heap.size]? = _ := HB0.out
          have hset := set4 (a' := .int .i64 y.kind) (b' := .int .i64 y.n) (c' := .string y.name) (d' := .slice y.at_.1 y.args.length y.at_.2) hbq
          have T4 := turned4 (a := .int .i64 y.kind) (b := .int .i64 y.n) (c := .string y.name) (d := .slice y.at_.1 y.args.length y.at_.2) (((hT.drewN nq)).drew) (g := w.heap.size) (by omega)
          have T5 := turned_store4 ((wr.drewN nq).drew) w.heap.size (.int .i64 y.kind) (.int .i64 y.n) (.string y.name) (.slice y.at_.1 y.args.length y.at_.2)
          go_roundg (Tm.walkG l y.bare)
          case measure => have := HG.out; have := HS.out.2; omega
          case rel => exact ⟨y, rfl, HS.out.1, hset, (T5.block _ (Array.getElem?_eq_some_iff.1 HB1.out).1 (by omega)).trans HB1.out, T4⟩
      · have hlt : decide (x.n < (m : Int)) = false := decide_eq_false hm
        have hdone := HI.out.done (fun _ e => by
          obtain ⟨b, hb, e2⟩ := List.mem_map.1 e
          have := (Tm.okT_mem H.out.ok hb).2.1
          omega)
        have HD := Lib.hid hdone
        clear hdone D R
        go_wp2_with fail
        go_quiet (fail)
        go_wp2_with fail
        have hbq : (wr.drewN nq).heap[w.heap.size + 1]? = _ := HB1.out
        have hset := set4 (a' := .int .i64 x.kind) (b' := .int .i64 x.n) (c' := .string x.name) (d' := .slice x.at_.1 x.args.length x.at_.2) hbq
        have T4 := turned4 (a := .int .i64 x.kind) (b := .int .i64 x.n) (c := .string x.name) (d := .slice x.at_.1 x.args.length x.at_.2) (hT.drewN nq) (g := w.heap.size + 1) (by omega)
        refine bodyPost_ret (v := .agg #[.int .i64 x.kind, .int .i64 x.n, .string x.name, .slice x.at_.1 x.args.length x.at_.2]) (results_cell_row Try.results170 _ _ (w.heap.size + 1) 41 _ (0, 0) _ rfl hset Try.underlying41 rfl (by kernel_rfl)) rfl ⟨x, by rw [LT.val_eq], HI.out.inn.turned0 T4, HD.out, T4⟩
    · have hkx : (x.kind == 0) = false := by simp [hk]
      have hdone := HI.out.done (fun e => absurd e hk)
      have HD := Lib.hid hdone
      clear hk hdone
      go_wp2_with fail
      go_quiet (fail)
      go_wp2_with fail
      have hbq : (wr.drewN nq).heap[w.heap.size + 1]? = _ := HB1.out
      have hset := set4 (a' := .int .i64 x.kind) (b' := .int .i64 x.n) (c' := .string x.name) (d' := .slice x.at_.1 x.args.length x.at_.2) hbq
      have T4 := turned4 (a := .int .i64 x.kind) (b := .int .i64 x.n) (c := .string x.name) (d := .slice x.at_.1 x.args.length x.at_.2) (hT.drewN nq) (g := w.heap.size + 1) (by omega)
      refine bodyPost_ret (v := .agg #[.int .i64 x.kind, .int .i64 x.n, .string x.name, .slice x.at_.1 x.args.length x.at_.2]) (results_cell_row Try.results170 _ _ (w.heap.size + 1) 41 _ (0, 0) _ rfl hset Try.underlying41 rfl (by kernel_rfl)) rfl ⟨x, by rw [LT.val_eq], HI.out.inn.turned0 T4, HD.out, T4⟩
set_option maxRecDepth 100000 in
set_option maxHeartbeats 1600000 in
theorem known99 {p p0 O : Nat → Prop} {wb m : Nat} {l : Tm.Trail} {w : World} {t : LT} (h : DO p wb O m l w) (ht : t.In p0 w) :
    Calls Try.prog 99 #[.pointer (some ⟨wb, 0, none⟩), t.val] w fun e w' => e = .returned (.bool (Tm.ownB m t)) ∧ Turned (fun _ => False) w w' := by
  obtain ⟨bx, hbx⟩ : ∃ bx : Obj, bx = .cells #[.int .i64 t.kind, .int .i64 t.n, .string t.name, .slice t.at_.1 t.args.length t.at_.2] 41 := ⟨_, rfl⟩
  have T1 := (Turned.refl (fun _ => False) w).alloc bx
  have hc : ∀ W, Turned (fun _ => False) (w.alloc bx) W → W.heap[w.heap.size]? = some bx := fun W hW => (hW.block _ (by simp) (fun f => f)).trans (heap_alloc_new w bx)
  have hgo := rGood45 (ht.turned0 T1)
  have hvs := fun W (hW : Turned (fun _ => False) w W) => varsV51 (ht.turned0 hW)
  rw [LT.val_eq t] at hgo hvs ⊢
  obtain ⟨ta, ia, ra, tc, ic, rc, us, is, D0, R, hlu, hli, hO⟩ := h.parts
  have HD0 := Lib.hid D0
  have hmm := h.most
  subst hbx
  have HC := Lib.hid hc
  have HT := Lib.hid T1
  clear h hc T1 ht D0 R hO
  cases hg : goodB t with
  | false =>
    have e1 : Tm.ownB m t = false := by unfold Tm.ownB; rw [hg]; rfl
    rw [e1]
    rw [hg] at hgo
    have HGO := Lib.hid hgo
    clear hgo hvs hg e1
    go_enter Try.func99, Try.ntmps99
    go_wp2_with (go_at_call 45; (with_reducible refine HGO.out.mono ?_); rintro e w3 ⟨rfl, T3⟩)
    go_ret
    exact ⟨rfl, HT.out.trans T3⟩
  | true =>
    have ev : varsB t = t.vars := by unfold varsB; rw [if_pos hg]
    have e1 : Tm.ownB m t = t.vars.all (fun v => decide (v < (m : Int))) := by unfold Tm.ownB; rw [hg]; rfl
    rw [e1]
    rw [hg] at hgo
    rw [ev] at hvs
    obtain ⟨vs, hv⟩ : ∃ z, z = t.vars := ⟨_, rfl⟩
    rw [← hv] at hvs ⊢
    have HGO := Lib.hid hgo
    have HVS := Lib.hid hvs
    clear hgo hvs hg ev e1 hv
    go_enter Try.func99, Try.ntmps99
    go_wp2_with (first
      | (go_at_call 45; (with_reducible refine HGO.out.mono ?_); rintro e w3 ⟨rfl, T3⟩; obtain ⟨c0, c1, c2, c3, _⟩ := cells4 (HC.out _ T3))
      | (go_at_call 51; (with_reducible refine (HVS.out _ (HT.out.trans T3)).mono ?_); rintro e w4 ⟨v, rfl, hrow, T4⟩; obtain ⟨va, vc, rfl⟩ := hrow.shape; have hmx := hrow.max; have TT := HT.out.trans (T3.trans T4); have HROW := Lib.hid hrow; clear hrow))
    have HTT := Lib.hid TT
    clear TT c0 c1 c2 c3 T3 T4 HGO HVS HC HT
    go_loopg [6] vs.length (fun q i wr => OwnL vs m w4 q i wr)
    case atStart => exact ⟨0, Nat.zero_add _, Nat.zero_le _, rfl, rfl, Turned.refl _ _⟩
    case round =>
      obtain ⟨j, HG, hj, rfl, HA, hT⟩ := hrel
      by_cases hjl : j < vs.length
      · obtain ⟨x, hx⟩ : ∃ x, vs[j]? = some x := ⟨_, List.getElem?_eq_getElem hjl⟩
        have hrw := HROW.out.turned0 hT
        obtain ⟨gv, cap, he⟩ := hrw.shape_pos (by omega)
        injection he with q1 _ q3
        subst q1 q3
        have hcv := hrw.cells rfl j (.int .i64 x) (by rw [List.getElem?_map, hx]; rfl)
        have D := HD0.out.turned0 (HTT.out.trans hT)
        obtain ⟨b0, b1, b2, _⟩ := rec3b D.b
        have HX := Lib.hid hx
        by_cases hxm : x < (m : Int)
        · have hge : decide ((m : Int) ≤ x) = false := decide_eq_false (by omega)
          have hst : (vs.take (j + 1)).all (fun v => decide (v < (m : Int))) = true := by rw [all_snoc _ _ _ x hx, HA.out, decide_eq_true hxm]; rfl
          have HST := Lib.hid hst
          clear hx hrw hst hxm D
          go_wp2_with fail
          go_quiet (fail)
          go_wp2_with fail
          go_roundg (gk - 1)
          case measure => have := HG.out; omega
          case rel => exact ⟨j + 1, show _ = _ by have := HG.out; omega, by omega, by go_num, HST.out, hT.drewN nq⟩
        · have hge : decide ((m : Int) ≤ x) = true := decide_eq_true (by omega)
          have hno : vs.all (fun v => decide (v < (m : Int))) = false := all_no _ _ j x hx (decide_eq_false hxm)
          have HNO := Lib.hid hno
          clear hx hrw hno hxm D
          go_wp2_with fail
          go_quiet (fail)
          go_wp2_with fail
          go_ret
          exact ⟨by rw [HNO.out]; rfl, HTT.out.trans (hT.drewN nq)⟩
      · obtain rfl : j = vs.length := by omega
        have ha := HA.out
        rw [List.take_length] at ha
        have HA' := Lib.hid ha
        clear ha
        go_wp2_with fail
        go_ret
        exact ⟨by rw [HA'.out]; rfl, HTT.out.trans hT⟩
end Go.Proofs.Ytoihjobdfjajfaa
namespace Go.Proofs.Ytoihjobdfjajfaa
set_option linter.unusedVariables false
set_option linter.unusedSimpArgs false
open Go.RowKit Go.Maps
structure BO (p : Nat → Prop) (bb : Nat) (O : Nat → Prop) (m : Nat) (l : TL) (w : World) : Prop where
  bi : ∃ sb lv tv, BI p bb sb lv tv m l w ∧ ∀ k, ownK bb sb lv tv k → O k
  box : ∀ b ∈ l, O b.2.1
  lt : ∀ k, O k → k < w.heap.size
  sep : ∀ k, p k → ¬ O k
section
variable {p q O O' S : Nat → Prop} {bb m : Nat} {l : TL} {w w' : World} {t : LT}
theorem BO.ok (h : BO p bb O m l w) : Tm.okT m (bt l) := by obtain ⟨sb, lv, tv, B, _⟩ := h.bi; exact B.ok
theorem BO.most (h : BO p bb O m l w) : m ≤ 65536 := by obtain ⟨sb, lv, tv, B, _⟩ := h.bi; exact B.most
theorem BO.plt (h : BO p bb O m l w) : ∀ k, p k → k < w.heap.size := by obtain ⟨sb, lv, tv, B, _⟩ := h.bi; exact fun k hk => (B.sep k hk).1
theorem BO.turned (h : BO p bb O m l w) (T : Turned S w w') (hS : ∀ k, k < w.heap.size → S k → ¬ O k ∧ ¬ p k) : BO p bb O m l w' := by
  obtain ⟨sb, lv, tv, B, hO⟩ := h.bi
  refine ⟨⟨sb, lv, tv, B.turned T (fun k hk e => ⟨fun c => (hS k hk e).1 (hO k c), fun b hb c => (hS k hk e).1 (c ▸ h.box b hb), (hS k hk e).2⟩), hO⟩, h.box, fun k hk => Nat.lt_of_lt_of_le (h.lt k hk) T.size, h.sep⟩
theorem BO.turned0 (h : BO p bb O m l w) (T : Turned (fun _ => False) w w') : BO p bb O m l w' := h.turned T (fun _ _ f => f.elim)
theorem BO.more (h : BO p bb O m l w) (hO : ∀ k, O k → O' k) (hl : ∀ k, O' k → k < w.heap.size) (hs : ∀ k, p k → ¬ O' k) : BO p bb O' m l w := by
  obtain ⟨sb, lv, tv, B, h1⟩ := h.bi
  exact ⟨⟨sb, lv, tv, B, fun k hk => hO k (h1 k hk)⟩, fun b hb => hO _ (h.box b hb), hl, hs⟩
theorem BO.wide (h : BO p bb O m l w) (hp : ∀ k, p k → q k) (hq : ∀ k, q k → k < w.heap.size ∧ ¬ O k) : BO q bb O m l w := by
  obtain ⟨sb, lv, tv, B, h1⟩ := h.bi
  exact ⟨⟨sb, lv, tv, B.wide hp (fun k hk => ⟨(hq k hk).1, fun c => (hq k hk).2 (h1 k c)⟩), h1⟩, h.box, h.lt, fun k hk => (hq k hk).2⟩
def After (p : Nat → Prop) (bb : Nat) (O : Nat → Prop) (m : Nat) (l : TL) (w w' : World) : Prop :=
  ∃ O' : Nat → Prop, BO p bb O' m l w' ∧ (∀ k, O' k → k < w.heap.size → O k) ∧ Turned O w w'
theorem After.turned0 {w2 : World} (h : After p bb O m l w w') (T : Turned (fun _ => False) w' w2) : After p bb O m l w w2 := by
  obtain ⟨O', h1, h2, h3⟩ := h
  exact ⟨O', h1.turned0 T, h2, h3.trans (T.mono (fun _ _ f => f.elim))⟩
theorem After.trans {m' m2 : Nat} {l' l2 : TL} {w2 : World} (h : After p bb O m' l' w w') (h2 : ∀ O', BO p bb O' m' l' w' → After p bb O' m2 l2 w' w2) : After p bb O m2 l2 w w2 := by
  obtain ⟨O', a1, a2, a3⟩ := h
  obtain ⟨O2, b1, b2, b3⟩ := h2 O' a1
  refine ⟨O2, b1, fun k hk hl => a2 k (b2 k hk (Nat.lt_of_lt_of_le hl a3.size)) hl, a3.step b3 (fun i hi e => a2 i e hi)⟩
theorem newO86 {p : Nat → Prop} (w : World) (hp : ∀ k, p k → k < w.heap.size) :
    Calls Try.prog 86 #[] w fun e w' => ∃ bb, e = .returned (.pointer (some ⟨bb, 0, none⟩)) ∧ BO p bb (fun k => w.heap.size ≤ k ∧ k < w'.heap.size) 0 [] w' ∧ w.heap.size ≤ bb ∧ Turned (fun _ => False) w w' := by
  refine (newB86 w hp).mono ?_
  rintro e w' ⟨rfl, B, T⟩
  refine ⟨_, rfl, ⟨⟨_, _, _, B, fun k hk => ⟨?_, B.own_lt k hk⟩⟩, fun b hb => (by cases hb), fun k hk => hk.2, fun k hk c => by have := hp k hk; omega⟩, by omega, T⟩
  rcases hk with e | e | e | e
  · omega
  · omega
  · simp [Value.ownBlock] at e
  · simp [Value.ownBlock] at e
theorem freshO87 (h : BO p bb O m l w) (hm : m < 65536) :
    Calls Try.prog 87 #[.pointer (some ⟨bb, 0, none⟩)] w fun e w' => e = .returned (.tuple #[.agg #[.int .i64 0, .int .i64 (m : Int), .string ByteArray.empty, .slice none 0 0], .bool true]) ∧ After p bb O (m + 1) l w w' := by
  obtain ⟨sb, lv, tv, B, hO⟩ := h.bi
  refine (fresh87 B hm).mono ?_
  rintro e w' ⟨rfl, ⟨lv', B', ho⟩, T⟩
  have hold : ∀ k, ownK bb sb lv' tv k → k < w.heap.size → ownK bb sb lv tv k := fun k hk hl => by
    rcases hk with e | e | e | e
    · exact .inl e
    · exact .inr (.inl e)
    · rcases ho with ho | ho
      · exact .inr (.inr (.inl (ho ▸ e)))
      · have := ho k e; omega
    · exact .inr (.inr (.inr e))
  refine ⟨rfl, fun k => ownK bb sb lv' tv k ∨ (O k ∧ k < w.heap.size), ⟨⟨sb, lv', tv, B', fun k hk => .inl hk⟩, fun b hb => .inr ⟨h.box b hb, h.lt _ (h.box b hb)⟩, fun k hk => hk.elim (B'.own_lt k) (fun e => Nat.lt_of_lt_of_le e.2 T.size), fun k hk c => ?_⟩, fun k hk hl => hk.elim (fun c => hO k (hold k c hl)) (fun e => e.1), T.mono (fun k _ e => hO k (e.elim .inl (fun e => .inr (.inr (.inl e)))))⟩
  rcases c with c | c
  · exact (B'.sep k hk).2 c
  · exact h.sep k hk c.1
theorem setO88 (h : BO p bb O m l w) (ht : t.In p w) (hs : slim t) (n : Int) (h64 : I64 n) :
    Calls Try.prog 88 #[.pointer (some ⟨bb, 0, none⟩), .int .i64 n, t.val] w fun e w' => e = .returned (.int .i64 (Tm.setE m (bt l) n t.bare)) ∧ ∃ l', bt l' = (if Tm.setE m (bt l) n t.bare = 0 then (n, t.bare) :: bt l else bt l) ∧ After p bb O m l' w w' := by
  obtain ⟨sb, lv, tv, B, hO⟩ := h.bi
  refine (set88 B ht hs n h64).mono ?_
  rintro e w' ⟨rfl, ⟨tv', l', B', hbt, ho, hb⟩, T⟩
  have hold : ∀ k, ownK bb sb lv tv' k → k < w.heap.size → ownK bb sb lv tv k := fun k hk hl => by
    rcases hk with e | e | e | e
    · exact .inl e
    · exact .inr (.inl e)
    · exact .inr (.inr (.inl e))
    · rcases ho with ho | ho
      · exact .inr (.inr (.inr (ho ▸ e)))
      · have := ho k e; omega
  refine ⟨rfl, l', hbt, fun k => ownK bb sb lv tv' k ∨ (O k ∧ k < w.heap.size) ∨ (w.heap.size ≤ k ∧ k < w'.heap.size), ⟨⟨sb, lv, tv', B', fun k hk => .inl hk⟩, fun b hbl => ?_, fun k hk => ?_, fun k hk c => ?_⟩, fun k hk hl => ?_, T.mono (fun k _ e => hO k (e.elim (fun e => .inr (.inl e)) (fun e => .inr (.inr e))))⟩
  · rcases hb b hbl with e | e
    · exact .inr (.inl ⟨h.box b e, h.lt _ (h.box b e)⟩)
    · exact .inr (.inr ⟨e, (Array.getElem?_eq_some_iff.1 (B'.terms b hbl).1).1⟩)
  · rcases hk with e | e | e
    · exact B'.own_lt k e
    · exact Nat.lt_of_lt_of_le e.2 T.size
    · exact e.2
  · rcases c with c | c | c
    · exact (B'.sep k hk).2 c
    · exact h.sep k hk c.1
    · have := (B.sep k hk).1; omega
  · rcases hk with e | e | e
    · exact hO k (hold k e hl)
    · exact e.1
    · omega
theorem walkO90 (h : BO p bb O m l w) (ht : t.In p w) (hg : ∀ z ∈ t.bare.flat, goodOneB z = true) :
    Calls Try.prog 90 #[.pointer (some ⟨bb, 0, none⟩), t.val] w fun e w' => ∃ x : LT, e = .returned x.val ∧ x.In p w' ∧ x.bare = Tm.walkT (bt l) t.bare ∧ Turned (fun _ => False) w w' := by
  obtain ⟨sb, lv, tv, B, hO⟩ := h.bi
  exact walk90 B ht hg
theorem wholeO89 (h : BO p bb O m l w) (ht : t.In p w) (hs : slim t) :
    Calls Try.prog 89 #[.pointer (some ⟨bb, 0, none⟩), t.val] w fun e w' => ∃ u : LT, e = .returned (.tuple #[u.val, .int .i64 (wholeE m (bt l) t.bare)]) ∧ u.bare = wholeT m (bt l) t.bare ∧ u.In (fun k => p k ∨ w.heap.size ≤ k) w' ∧ Turned (fun _ => False) w w' := by
  obtain ⟨sb, lv, tv, B, hO⟩ := h.bi
  exact whole89 B ht hs
theorem markO111 (h : BO p bb O m l w) : Calls Try.prog 111 #[.pointer (some ⟨bb, 0, none⟩)] w fun e w' => e = .returned (.int .i64 l.length) ∧ Turned (fun _ => False) w w' := by
  obtain ⟨sb, lv, tv, B, hO⟩ := h.bi
  exact mark111 B
theorem lenO107 (h : BO p bb O m l w) : Calls Try.prog 107 #[.pointer (some ⟨bb, 0, none⟩)] w fun e w' => e = .returned (.int .i64 m) ∧ Turned (fun _ => False) w w' := by
  obtain ⟨sb, lv, tv, B, hO⟩ := h.bi
  exact len107 B
end
end Go.Proofs.Ytoihjobdfjajfaa
namespace Go.Proofs.Ytoihjobdfjajfaa
open Go.RowKit
set_option linter.unusedVariables false
set_option linter.unusedSimpArgs false
theorem Row.stored {w : World} {e : TypeId} {n g cap : Nat} {xs : List Value} (h : Row w e 1 (.slice (some ⟨g, 0, none⟩) n cap) n xs) {i : Nat} (hi : i < n) (u : Value) :
    Row (w.setCell ⟨g, i, none⟩ u) e 1 (.slice (some ⟨g, 0, none⟩) n cap) n (xs.set i u) := by
  refine ⟨by simpa using h.1, .inr ?_⟩
  rcases h.2 with ⟨e, _⟩ | ⟨g', c, cur, e, hg, h1, h2, h3, h4⟩
  · cases e
  · injection e with e1 _ e3; injection e1 with e1; injection e1 with e1; subst e1; subst e3
    refine ⟨g, cap, cur.setIfInBounds i u, rfl, ?_, h1, h2, by simpa using h3, ?_⟩
    · simp only [World.setCell, Array.getElem?_modify]
      simp [hg]
    · simp only [Array.toList_setIfInBounds]
      rw [← h4, Nat.mul_one, List.take_set]
theorem Row.over {w w' : World} {e : TypeId} {n g cap m : Nat} {xs : List Value} (h : Row w e 1 (.slice (some ⟨g, 0, none⟩) n cap) n xs) (hm : m ≤ n)
    (hw : ∃ cur cur' : Array Value, w.heap[g]? = some (.cells cur e (0, 0)) ∧ w'.heap[g]? = some (.cells cur' e (0, 0)) ∧ cur'.size = cur.size ∧ cur'.toList.take m = cur.toList.take m) :
    Row w' e 1 (.slice (some ⟨g, 0, none⟩) m cap) m (xs.take m) := by
  obtain ⟨cur, cur', q1, q2, q3, q4⟩ := hw
  rcases h.2 with ⟨e, _⟩ | ⟨g', c, cu, e, hg, h1, h2, h3, h4⟩
  · cases e
  · injection e with e1 _ e3; injection e1 with e1; injection e1 with e1; subst e1; subst e3
    rw [q1] at hg; injection hg with hg; injection hg with hg; subst hg
    refine ⟨?_, .inr ⟨g, cap, cur', rfl, q2, by omega, h2, by rw [q3]; exact h3, ?_⟩⟩
    · rw [List.length_take, h.1]; omega
    · rw [Nat.mul_one, q4, ← h4, List.take_take, Nat.mul_one, Nat.min_eq_left hm]
structure Stk {α : Type} (st e : TypeId) (enc : α → Value) (w : World) (B sb room : Nat) (lv : Value) (l : List α) : Prop where
  base : B ≤ sb
  baseR : ∀ k, lv.ownBlock = some k → B ≤ k
  blk : w.heap[sb]? = some (.cells #[.int .i64 room, lv] st (0, 0))
  row : Row w e 1 lv l.length (l.map enc)
  apart : lv.ownBlock ≠ some sb
  room1 : 1 ≤ room
  room2 : room ≤ 65536
  len : l.length ≤ room
def Mine2 (sb : Nat) (lv : Value) (k : Nat) : Prop := k = sb ∨ lv.ownBlock = some k
theorem rec2_cells {w : World} {sb : Nat} {r : Int} {lv : Value} {st : TypeId} (h : w.heap[sb]? = some (.cells #[.int .i64 r, lv] st (0, 0))) :
    w.cell? ⟨sb, 0, none⟩ = some (.int .i64 r) ∧ w.cell? ⟨sb, 1, none⟩ = some lv ∧ w.frozen? ⟨sb, 1, none⟩ = false :=
  ⟨by rw [cell_of_row w sb 0 _ st (0, 0) h]; rfl, by rw [cell_of_row w sb 1 _ st (0, 0) h]; rfl, frozen_of_row w sb 1 _ st h⟩
theorem rec2_set {w : World} {sb : Nat} {r : Int} {lv : Value} {st : TypeId} (h : w.heap[sb]? = some (.cells #[.int .i64 r, lv] st (0, 0))) (u : Value) :
    (w.setCell ⟨sb, 1, none⟩ u).heap[sb]? = some (.cells #[.int .i64 r, u] st (0, 0)) := by
  simp only [World.setCell, Array.getElem?_modify]
  simp [h]
section
variable {α : Type} {st e : TypeId} {enc : α → Value} {w : World} {B sb room : Nat} {lv : Value} {l : List α}
theorem Stk.turned {S : Nat → Prop} {w' : World} (h : Stk st e enc w B sb room lv l) (ht : Turned S w w') (hS : ∀ k, S k → ¬ Mine2 sb lv k) : Stk st e enc w' B sb room lv l :=
  ⟨h.base, h.baseR, (ht.block sb (Array.getElem?_eq_some_iff.1 h.blk).1 (fun s => hS sb s (.inl rfl))).trans h.blk, h.row.turned ht (fun k e s => hS k s (.inr e)), h.apart, h.room1, h.room2, h.len⟩
theorem Stk.turned0 {w' : World} (h : Stk st e enc w B sb room lv l) (ht : Turned (fun _ => False) w w') : Stk st e enc w' B sb room lv l := h.turned ht (fun _ x => False.elim x)
theorem Stk.fresh (h : Stk st e enc w B sb room lv l) : ∀ k, Mine2 sb lv k → B ≤ k := by
  rintro k (rfl | e)
  · exact h.base
  · exact h.baseR k e
theorem Stk.old (h : Stk st e enc w B sb room lv l) : ∀ k, Mine2 sb lv k → k < w.heap.size := by
  rintro k (rfl | e)
  · exact (Array.getElem?_eq_some_iff.1 h.blk).1
  · exact h.row.lt k e
end
abbrev StkI := Stk (α := Int) 209 2 (Value.int .i64)
theorem onesI (l : List Int) : ∀ x ∈ l.map (Value.int .i64), x.oneCell' = true := by intro x hx; obtain ⟨_, _, rfl⟩ := List.mem_map.1 hx; rfl
theorem stkInfoI : (Try.prog.info? 2).map (fun i => (i.zero, i.size, i.bytes)) = some (some (.int .i64 0), 1, 8) := by kernel_rfl
def revAtI (xs : List Int) (k p : Nat) : Option Int := if p < k ∨ xs.length - k ≤ p then xs[xs.length - 1 - p]? else xs[p]?
theorem rev_stepI {xs ys : List Int} {k y : Nat} {p q : Int} (hl : ys.length = xs.length) (hy : y + k + 1 = xs.length) (hky : k < y) (hys : ∀ r, r < xs.length → ys[r]? = revAtI xs k r) (hp : ys[k]? = some p) (hq : ys[y]? = some q) :
    ∀ r, r < xs.length → ((ys.set k q).set y p)[r]? = revAtI xs (k + 1) r := by
  intro r hr
  have hk := hys k (by omega)
  have hy' := hys y (by omega)
  rw [hp] at hk
  rw [hq] at hy'
  unfold revAtI at hk hy' ⊢
  rw [if_neg (by omega)] at hk hy'
  by_cases e1 : r = y
  · subst e1
    rw [List.getElem?_set_self (by simp; omega), if_pos (by omega), show xs.length - 1 - r = k from by omega]
    exact hk
  · rw [List.getElem?_set_ne (by omega)]
    by_cases e2 : r = k
    · subst e2
      rw [List.getElem?_set_self (by omega), if_pos (by omega), show xs.length - 1 - r = y from by omega]
      exact hy'
    · rw [List.getElem?_set_ne (by omega), hys r hr]
      unfold revAtI
      by_cases hc : r < k ∨ xs.length - k ≤ r
      · rw [if_pos hc, if_pos (by omega)]
      · rw [if_neg hc, if_neg (by omega)]
theorem rev_endI {xs ys : List Int} {k : Nat} (hl : ys.length = xs.length) (hk1 : 2 * k ≤ xs.length + 1) (hk2 : xs.length ≤ 2 * k + 1) (hys : ∀ r, r < xs.length → ys[r]? = revAtI xs k r) : ys = xs.reverse := by
  apply List.ext_getElem?
  intro r
  by_cases hr : r < xs.length
  · rw [hys r hr, List.getElem?_reverse hr]
    unfold revAtI
    split
    · rfl
    · rw [show xs.length - 1 - r = r from by omega]
  · rw [List.getElem?_eq_none (by omega), List.getElem?_eq_none (by simp; omega)]
set_option maxHeartbeats 1000000 in
theorem revI {w : World} {v : Value} {xs : List Int} (h : Row w 2 1 v xs.length (xs.map (Value.int .i64))) (hn : xs.length ≤ 65536) :
    Calls Try.prog 172 #[v] w fun e w' => e = .returned (.tuple #[]) ∧ Row w' 2 1 v xs.length (xs.map (Value.int .i64)).reverse ∧ Turned (fun k => v.ownBlock = some k) w w' := by
  obtain ⟨a, cap, rfl⟩ := h.shape
  go_enter Try.func172, Try.ntmps172
  go_wp2
  go_loopw [2, 3] (fun i j wr => ∃ (k : Nat) (x : Int), 2 * k ≤ xs.length + 1 ∧ i = .int .i64 k ∧ j = .int .i64 x ∧ x + k + 1 ≤ xs.length ∧ (xs.length : Int) ≤ x + k + 1 ∧ (∃ ys : List Int, Row wr 2 1 (.slice a xs.length cap) xs.length (ys.map (Value.int .i64)) ∧ ∀ p, p < xs.length → ys[p]? = revAtI xs k p) ∧ Turned (fun k => (Value.slice a xs.length cap).ownBlock = some k) w wr) (fun i j _ => (intOf j - intOf i + 1).toNat)
  case atStart => exact ⟨0, _, by omega, rfl, rfl, by omega, by omega, ⟨xs, h, fun p hp => by simp [revAtI]; omega⟩, Turned.refl _ _⟩
  case round =>
    obtain ⟨k, x, hk, rfl, rfl, hx1, hx2, ⟨ys, hrow, hys⟩, hT⟩ := hrel
    have hl : ys.length = xs.length := by have := hrow.1; simpa using this
    by_cases hlt : 2 * k + 1 < xs.length
    · obtain ⟨y, rfl⟩ : ∃ y : Nat, x = y := ⟨x.toNat, by omega⟩
      have hky : k < y := by omega
      have hne : ¬ k = y := by omega
      have hne2 : ¬ y = k := by omega
      have hyn : y < xs.length := by omega
      have hkn : k < xs.length := by omega
      obtain ⟨p, hp⟩ : ∃ p, ys[k]? = some p := ⟨_, List.getElem?_eq_getElem (by omega)⟩
      obtain ⟨q, hq⟩ : ∃ q, ys[y]? = some q := ⟨_, List.getElem?_eq_getElem (by omega)⟩
      obtain ⟨g, cap3, hgc⟩ := hrow.shape_pos (by omega)
      injection hgc with q1 _ q2
      subst q1; subst q2
      have cp := hrow.cells rfl k ((Value.int .i64) p) (by rw [List.getElem?_map, hp]; rfl)
      have cq := hrow.cells rfl y ((Value.int .i64) q) (by rw [List.getElem?_map, hq]; rfl)
      have fk := hrow.free rfl k
      have fy := hrow.free rfl y
      have hst := Lib.hid (rev_stepI hl (y := y) (by omega) hky hys hp hq)
      have hr2 := (hrow.stored (i := k) hkn ((Value.int .i64) q)).stored (i := y) hyn ((Value.int .i64) p)
      rw [← List.map_set, ← List.map_set] at hr2
      have HR2 := Lib.hid hr2
      clear hp hq hys hr2
      go_wp2_with fail
      go_region
      all_goals
        go_wp2_with fail
        go_roundw
        case rel => exact ⟨k + 1, (y : Int) - 1, by omega, by go_num, rfl, by omega, by omega, ⟨_, HR2.out, hst.out⟩, ((hT.setCell (p := ⟨g, k, none⟩) (.inr rfl) _).setCell (p := ⟨g, y, none⟩) (.inr rfl) _).drew⟩
        case measure => (simp [intOf]; try omega)
    · have hge : ¬ ((k : Int) < x) := by omega
      have he := rev_endI hl hk (by omega) hys
      clear hys
      have HE := Lib.hid he
      clear he
      go_wp2
      go_end0
      exact ⟨rfl, by rw [← List.map_reverse, ← HE.out]; exact hrow, hT⟩
theorem setCells_blk (b : Nat) (e : TypeId) (m : Nat) : ∀ (vs : List Value) (o : Nat) (w : World) (cur : Array Value), m ≤ o → w.heap[b]? = some (.cells cur e (0, 0)) → ∃ cur' : Array Value, (w.setCells b o vs).heap[b]? = some (.cells cur' e (0, 0)) ∧ cur'.size = cur.size ∧ cur'.toList.take m = cur.toList.take m
  | [], o, w, cur, _, h => ⟨cur, h, rfl, rfl⟩
  | v :: r, o, w, cur, ho, h => by
    have h1 : (w.setCell ⟨b, o, none⟩ v).heap[b]? = some (.cells (cur.setIfInBounds o v) e (0, 0)) := by
      simp only [World.setCell, Array.getElem?_modify]; simp [h]
    obtain ⟨cur', q1, q2, q3⟩ := setCells_blk b e m r (o + 1) _ _ (by omega) h1
    refine ⟨cur', q1, by rw [q2]; simp, ?_⟩
    rw [q3, Array.toList_setIfInBounds, List.take_set_of_le ho]
theorem setCells_turned (b : Nat) : ∀ (vs : List Value) (o : Nat) (w : World), Turned (· = b) w (w.setCells b o vs)
  | [], _, w => Turned.refl _ _
  | v :: r, o, w => ((Turned.refl (· = b) w).setCell (p := ⟨b, o, none⟩) (.inr rfl) v).trans (setCells_turned b r (o + 1) _)
theorem run_clear_row {P : Program} {w : World} {t e ty : TypeId} {z : Value} (ht : P.underlying t = some (.slice e)) (hv : ∀ w, (zeroValue e).run P w = .ok z w) (hz : z.cells = #[z]) (h1 : z.oneCell' = true)
    {g n cap m c k : Nat} {xs : List Value} (h : Row w e 1 (.slice (some ⟨g, 0, none⟩) n cap) n xs) (hk : m + k = n) :
    ∃ w', (Builtin.clear_ #[t] ty #[.slice (some ⟨g, m, none⟩) k c]).run P w = .ok (.tuple #[]) w' ∧ Row w' e 1 (.slice (some ⟨g, 0, none⟩) m cap) m (xs.take m) ∧ Turned (· = g) w w' := by
  rcases h.2 with ⟨e, _⟩ | ⟨g', cp, cur, e, hg, q1, q2, q3, q4⟩
  · cases e
  · injection e with e1 _ e3; injection e1 with e1; injection e1 with e1; subst e1; subst e3
    by_cases h0 : k = 0
    · subst h0
      refine ⟨w, ?_, ?_, Turned.refl _ _⟩
      · simp [Builtin.clear_, run_underlying ht]
      · exact h.over (by omega) ⟨cur, cur, hg, hg, rfl, rfl⟩
    · obtain ⟨cur', r1, r2, r3⟩ := setCells_blk g e m (List.replicate k z) m w cur (Nat.le_refl _) hg
      have hc : ∀ j, j < k → (w.cell? ⟨g, m + j, none⟩).isSome = true := by
        intro j hj
        rw [cell_of_row w g (m + j) cur e (0, 0) hg]
        simp
        omega
      refine ⟨_, Lib.run_clear_slice w t e ty z ht hv hz h1 g m k c (by omega) hc (fun j _ => frozen_of_row w g _ cur e hg), ?_, setCells_turned g _ _ w⟩
      exact h.over (by omega) ⟨cur, cur', hg, r1, r2, r3⟩
theorem clear_row {P : Program} (w : World) {ops : Array Oper} {rest : List Oper} {o : Oper} {a : Act} {Q : Exit → Act → World → Prop} (hgd : o.guard = none) (s : Operand) (t : TypeId)
    (ho : o.op = .call { callee := .builtin .clear, args := #[s], argTypes := #[t] })
    (e : TypeId) (z : Value) (ht : P.underlying t = some (.slice e)) (hv : ∀ w, (zeroValue e).run P w = .ok z w) (hz : z.cells = #[z]) (h1 : z.oneCell' = true)
    (g n cap m c k : Nat) (xs : List Value) (h : Row w e 1 (.slice (some ⟨g, 0, none⟩) n cap) n xs) (hk : m + k = n) (hs : a.eval s = .slice (some ⟨g, m, none⟩) k c)
    (hK : ∀ w', Row w' e 1 (.slice (some ⟨g, 0, none⟩) m cap) m (xs.take m) → Turned (· = g) w w' → wpList P ops Q rest (a.put o.dst (.tuple #[])) w') : wpList P ops Q (o :: rest) a w := by
  refine wpList_plain hgd fun K hK' => ?_
  obtain ⟨w', hr, h2, h3⟩ := run_clear_row (P := P) (ty := o.type) ht hv hz h1 (c := c) h hk
  unfold Oper.wp execOp
  simp only [ho, resolve, invoke, builtin, Sem.run_bind, Sem.run_pure, Result.andThen_ok, List.map_toArray, List.map_cons, List.map_nil, hs, hr]
  exact hK' _ _ (hK w' h2 h3)
theorem clear_none {P : Program} (w : World) {ops : Array Oper} {rest : List Oper} {o : Oper} {a : Act} {Q : Exit → Act → World → Prop} (hgd : o.guard = none) (s : Operand) (t : TypeId)
    (ho : o.op = .call { callee := .builtin .clear, args := #[s], argTypes := #[t] }) (e : TypeId) (ht : P.underlying t = some (.slice e)) (ao : Option Addr) (k c : Nat) (hk0 : k = 0) (hs : a.eval s = .slice ao k c)
    (hK : wpList P ops Q rest (a.put o.dst (.tuple #[])) w) : wpList P ops Q (o :: rest) a w := by
  subst hk0
  refine wpList_plain hgd fun K hK' => ?_
  have hr : (Builtin.clear_ #[t] o.type #[.slice ao 0 c]).run P w = .ok (.tuple #[]) w := by
    cases ao <;> simp [Builtin.clear_, run_underlying ht]
  unfold Oper.wp execOp
  simp only [ho, resolve, invoke, builtin, Sem.run_bind, Sem.run_pure, Result.andThen_ok, List.map_toArray, List.map_cons, List.map_nil, hs, hr]
  exact hK' _ _ hK
theorem zeroVI (w : World) : (zeroValue 2).run Try.prog w = .ok (.int .i64 0) w := by kernel_rfl
set_option maxHeartbeats 400000 in
theorem stkCloneI_some {w : World} {ad : Addr} {n cap : Nat} {xs : List Value} (hl : xs.length = n * 1) (hcells : ∀ j u, xs[j]? = some u → w.cell? (ad.add j) = some u) (hx : ∀ x ∈ xs, x.oneCell' = true) (hn : n ≤ 65536) :
    Calls Try.prog 171 #[.slice (some ad) n cap] w fun e w' => ∃ v, e = .returned v ∧ Row w' 2 1 v n xs ∧ (∀ k, v.ownBlock = some k → w.heap.size ≤ k) ∧ Turned (fun _ => False) w w' := by
  obtain ⟨i0, hi0, hz0, hz1, hz2⟩ := info_parts stkInfoI
  have hnil := fun (w : World) (a : Option Addr) (n c : Nat) => Lib.run_eql_slice_nil (P := Try.prog) w 24 2 a n c 0 0 Try.underlying24
  have hc' : ∀ o : Obj, ∀ j u, xs[j]? = some u → (w.alloc o).cell? (ad.add j) = some u := fun o j u h => cell_old (hcells j u h)
  have HC := Lib.hid hc'
  clear hcells hc'
  go_enter Try.func171, Try.ntmps171
  go_wp2_with (first
    | (at_builtin; refine append_row _ rfl _ _ 24 rfl 2 i0 (.int .i64 0) 1 8 Try.underlying24 hi0 hz0 hz1 hz2 rfl (by decide) _ _ _ rfl (Row.made _ 2 1 #[] 0 rfl (by simp)) ad n cap xs rfl hl (HC.out _) hx (by unfold maxLen; omega) (by omega) ?_; intro v2 w2 hown2 hg2 hl2 _))
  go_ret
  refine ⟨_, rfl, by simpa using hown2, ?_, ((Turned.refl (fun _ => False) w).alloc (.cells #[] 2)).step hg2 ?_⟩
  · intro k hk
    change v2.ownBlock = some k at hk
    rcases hl2 with e | e
    · rw [hk] at e; simp [Value.ownBlock, Act.eval] at e; omega
    · rw [hk] at e; simp at e; omega
  · intro k hk1 hk
    simp [Value.ownBlock, Act.eval] at hk
    omega
set_option maxHeartbeats 400000 in
theorem stkCloneI_nil (w : World) :
    Calls Try.prog 171 #[.slice none 0 0] w fun e w' => e = .returned (.slice none 0 0) ∧ w = w' := by
  have hnil := fun (w : World) (a : Option Addr) (n c : Nat) => Lib.run_eql_slice_nil (P := Try.prog) w 24 2 a n c 0 0 Try.underlying24
  go_enter Try.func171, Try.ntmps171
  go_wp2
  go_ret
  exact ⟨rfl, rfl⟩
theorem stkCloneI {w : World} {ao : Option Addr} {n cap : Nat} {xs : List Value} (hnone : ao = none → n = 0 ∧ cap = 0) (hl : xs.length = n) (hcells : ∀ ad, ao = some ad → ∀ j u, xs[j]? = some u → w.cell? (ad.add j) = some u) (hx : ∀ x ∈ xs, x.oneCell' = true) (hn : n ≤ 65536) :
    Calls Try.prog 171 #[.slice ao n cap] w fun e w' => ∃ v, e = .returned v ∧ Row w' 2 1 v n xs ∧ (∀ k, v.ownBlock = some k → w.heap.size ≤ k) ∧ Turned (fun _ => False) w w' := by
  cases ao with
  | some ad => exact stkCloneI_some (by rw [Nat.mul_one]; exact hl) (hcells ad rfl) hx hn
  | none =>
    obtain ⟨rfl, rfl⟩ := hnone rfl
    have : xs = [] := List.eq_nil_of_length_eq_zero hl
    subst this
    exact (stkCloneI_nil w).mono fun e w' ⟨he, hw⟩ => hw ▸ ⟨_, he, Row.nil _ _ _, by simp [Value.ownBlock], Turned.refl _ _⟩
set_option maxHeartbeats 400000 in
theorem stkUndoI_no {w : World} {B sb room : Nat} {lv : Value} {l : List Int} (h : StkI w B sb room lv l) (n : Int) (hn : n < 0 ∨ (l.length : Int) < n) :
    Calls Try.prog 151 #[.pointer (some ⟨sb, 0, none⟩), .int .i64 n] w fun e w' => e = .returned (.tuple #[.slice none 0 0, .bool false]) ∧ w = w' := by
  obtain ⟨a, cap, rfl⟩ := h.row.shape
  have hr := h.room2
  have hl := h.len
  obtain ⟨c0, c1, _⟩ := rec2_cells h.blk
  clear h
  by_cases h0 : n < 0
  · go_enter Try.func151, Try.ntmps151
    go_wp2
    go_ret2
    exact ⟨rfl, rfl⟩
  · have h1 : (l.length : Int) < n := by omega
    have h2 : 0 ≤ n := by omega
    clear hn h0
    go_enter Try.func151, Try.ntmps151
    go_wp2
    go_ret2
    exact ⟨rfl, rfl⟩
theorem undo_closeI {w w1 w2 : World} {B sb room cap g n : Nat} {l : List Int} (h : StkI w B sb room (.slice (some ⟨g, 0, none⟩) l.length cap) l) (hn : n ≤ l.length)
    (T1 : Turned (fun _ => False) w w1) (T2 : Turned (· = g) w1 w2) (hrow : Row w2 2 1 (.slice (some ⟨g, 0, none⟩) n cap) n ((l.map (Value.int .i64)).take n)) :
    StkI (w2.setCell ⟨sb, 1, none⟩ (.slice (some ⟨g, 0, none⟩) n cap)) B sb room (.slice (some ⟨g, 0, none⟩) n cap) (l.take n) ∧ Turned (Mine2 sb (.slice (some ⟨g, 0, none⟩) l.length cap)) w (w2.setCell ⟨sb, 1, none⟩ (.slice (some ⟨g, 0, none⟩) n cap)) := by
  have hgs : g ≠ sb := fun e => h.apart (by rw [e]; rfl)
  have lsb := (Array.getElem?_eq_some_iff.1 h.blk).1
  have hl := h.len
  have hlen : (l.take n).length = n := by rw [List.length_take]; omega
  have blk2 := (T2.block sb (Nat.lt_of_lt_of_le lsb T1.size) (fun e => hgs e.symm)).trans ((T1.block sb lsb (fun f => f)).trans h.blk)
  refine ⟨⟨h.base, fun k hk => h.baseR k hk, rec2_set blk2 _, ?_, by simp [Value.ownBlock]; exact hgs, h.room1, h.room2, by omega⟩, ?_⟩
  · rw [hlen, List.map_take]
    exact hrow.setCell (p := ⟨sb, 1, none⟩) (by simp [Value.ownBlock]; exact hgs) _
  · exact Turned.setCell (((T1.mono (fun _ _ f => f.elim))).step (T := (· = g)) T2 (fun i _ e => .inr (by rw [e]; rfl))) (.inr (.inl rfl)) _
set_option maxHeartbeats 1000000 in
theorem stkUndoI_some {w : World} {B sb room g cap : Nat} {l : List Int} (h : StkI w B sb room (.slice (some ⟨g, 0, none⟩) l.length cap) l) (n : Nat) (hn : n ≤ l.length) :
    Calls Try.prog 151 #[.pointer (some ⟨sb, 0, none⟩), .int .i64 n] w fun e w' => ∃ v lv', e = .returned (.tuple #[v, .bool true]) ∧ Row w' 2 1 v (l.length - n) ((l.drop n).map (Value.int .i64)).reverse ∧ (∀ k, v.ownBlock = some k → w.heap.size ≤ k) ∧
      StkI w' B sb room lv' (l.take n) ∧ lv'.ownBlock = some g ∧ Turned (Mine2 sb (.slice (some ⟨g, 0, none⟩) l.length cap)) w w' := by
  have hk := Lib.hid h
  have hr := h.room2
  have hl := h.len
  obtain ⟨c0, c1, f1⟩ := rec2_cells h.blk
  have lsb := (Array.getElem?_eq_some_iff.1 h.blk).1
  have lg := h.row.lt g rfl
  have hcl : l.length ≤ cap := by
    rcases h.row.2 with ⟨e, _⟩ | ⟨_, _, _, e, _, hh, _⟩
    · cases e
    · injection e with _ _ e; omega
  have hd : decide ((n : Int) < 0) = false := by simp
  have hd2 : decide (l.length < n) = false := by simp; omega
  have hgs : ¬ sb = g := fun e => h.apart (by rw [e]; rfl)
  have hcells : ∀ c, (¬ cap = n → c = n) → ∀ ad, some (⟨g, c, none⟩ : Addr) = some ad → ∀ j u, ((l.drop n).map (Value.int .i64))[j]? = some u → w.cell? (ad.add j) = some u := by
    intro c hc ad e j u hu
    injection e with e; subst e
    have hj := (List.getElem?_eq_some_iff.1 hu).1
    simp at hj
    rw [hc (by omega), Addr.add_lit]
    refine hk.out.row.cells rfl _ _ ?_
    rw [List.getElem?_map, List.getElem?_drop] at hu
    rw [List.getElem?_map]
    exact hu
  have hrl : (l.drop n).length = l.length - n := List.length_drop
  by_cases hcn : cap = n
  · have hcn2 := hcn.symm
    subst hcn2
    have hcl' := stkCloneI (w := w) (ao := some ⟨g, 0, none⟩) (n := 0) (cap := 0) (xs := []) (by simp) (by simp) (by simp) (by simp) (by omega)
    have HCL := Lib.hid hcl'
    have HZ := Lib.hid (show l.length - n = 0 from by omega)
    have HD := Lib.hid (show l.drop n = [] from List.drop_eq_nil_of_le (by omega))
    clear hcells h hcl'
    go_enter Try.func151, Try.ntmps151
    go_wp2_with fail
    refine HCL.out.mono ?_
    rintro e w1 ⟨v, rfl, hv, hfr, T1⟩
    have hrv := revI (w := w1) (v := v) (xs := []) hv (by simp)
    have HRV := Lib.hid hrv
    obtain ⟨av, capv, rfl⟩ := hv.shape
    clear hrv
    go_wp2_with fail
    refine HRV.out.mono ?_
    rintro e w2 ⟨rfl, hv2, T2⟩
    have T12 := T1.step T2 (fun i hi e => by have := hfr i e; omega)
    have d1 := T12.cell0 c1
    have f2 := T12.frozen lsb f1 (fun f => f)
    have hrow2 := hk.out.row.turned0 T12
    clear c0 c1 f1
    go_wp2_with (first
      | (refine clear_none _ rfl (.tmp 32) 24 rfl 2 Try.underlying24 _ _ _ rfl rfl ?_))
    go_ret2
    have hrow3 := hrow2.take (m := n) (c := n) hn (Nat.le_refl _) (Nat.le_refl _)
    rw [Nat.mul_one] at hrow3
    obtain ⟨r1, r2⟩ := undo_closeI hk.out hn T12 (Turned.refl _ _) hrow3
    refine ⟨_, _, rfl, ?_, hfr, r1, rfl, r2⟩
    rw [HZ.out, HD.out]
    exact hv2.setCell (p := ⟨sb, 1, none⟩) (fun e => by have q : w.heap.size ≤ sb := hfr _ e; omega) _
  · have hcl' := stkCloneI (w := w) (ao := some ⟨g, n, none⟩) (n := l.length - n) (cap := cap - n) (xs := (l.drop n).map (Value.int .i64)) (by simp) (by simp) (hcells n (fun _ => rfl)) (onesI _) (by omega)
    have HCL := Lib.hid hcl'
    clear hcells h hcl'
    go_enter Try.func151, Try.ntmps151
    go_wp2_with fail
    refine HCL.out.mono ?_
    rintro e w1 ⟨v, rfl, hv, hfr, T1⟩
    have hrv := revI (w := w1) (v := v) (xs := l.drop n) (by rw [hrl]; exact hv) (by omega)
    rw [hrl] at hrv
    have HRV := Lib.hid hrv
    obtain ⟨av, capv, rfl⟩ := hv.shape
    clear hrv
    go_wp2_with fail
    refine HRV.out.mono ?_
    rintro e w2 ⟨rfl, hv2, T2⟩
    have T12 := T1.step T2 (fun i hi e => by have := hfr i e; omega)
    have d1 := T12.cell0 c1
    have f2 := T12.frozen lsb f1 (fun f => f)
    have hrow2 := hk.out.row.turned0 T12
    have lsb2 : sb < w2.heap.size := by have := T12.size; omega
    clear c0 c1 f1
    go_wp2_with (first
      | (refine clear_row _ rfl (.tmp 32) 24 rfl 2 (.int .i64 0) Try.underlying24 zeroVI rfl rfl g l.length cap n _ (l.length - n) _ hrow2 (by omega) rfl ?_; intro w3 hrow3 T3; have e1 := T3.cell d1 hgs; have f3 := T3.frozen lsb2 f2 hgs; clear d1 f2))
    go_ret2
    obtain ⟨r1, r2⟩ := undo_closeI hk.out hn T12 T3 hrow3
    refine ⟨_, _, rfl, ?_, hfr, r1, rfl, r2⟩
    exact (hv2.turned T3 (fun k e s => by have := hfr k e; have s : k = g := s; omega)).setCell (p := ⟨sb, 1, none⟩) (fun e => by have q : w.heap.size ≤ sb := hfr _ e; omega) _
set_option maxHeartbeats 1000000 in
theorem stkUndoI_nil {w : World} {B sb room : Nat} (h : StkI w B sb room (.slice none 0 0) []) :
    Calls Try.prog 151 #[.pointer (some ⟨sb, 0, none⟩), .int .i64 0] w fun e w' => e = .returned (.tuple #[.slice none 0 0, .bool true]) ∧ StkI w' B sb room (.slice none 0 0) [] ∧ Turned (Mine2 sb (.slice none 0 0)) w w' := by
  have hk := Lib.hid h
  obtain ⟨c0, c1, f1⟩ := rec2_cells h.blk
  have HCL := Lib.hid (stkCloneI_nil w)
  have hrv := revI (w := w) (v := .slice none 0 0) (xs := []) (Row.nil _ _ _) (by simp)
  have HRV := Lib.hid hrv
  have lsb := (Array.getElem?_eq_some_iff.1 h.blk).1
  clear h hrv
  go_enter Try.func151, Try.ntmps151
  go_wp2_with fail
  refine HCL.out.mono ?_
  rintro e w1 ⟨rfl, rfl⟩
  go_wp2_with fail
  refine HRV.out.mono ?_
  rintro e w2 ⟨rfl, hv2, T2⟩
  have T3 : Turned (fun _ => False) w w2 := T2.mono (fun i _ e => by simp [Value.ownBlock] at e)
  have d1 := T3.cell0 c1
  have f2 := T3.frozen lsb f1 (fun f => f)
  clear c0 c1 f1
  go_wp2_with (first
    | (refine clear_none _ rfl (.tmp 32) 24 rfl 2 Try.underlying24 _ _ _ rfl rfl ?_))
  go_ret2
  have h2 := hk.out.turned0 T3
  exact ⟨rfl, ⟨h2.base, h2.baseR, rec2_set h2.blk _, Row.nil _ _ _, h2.apart, h2.room1, h2.room2, h2.len⟩, (T3.mono (fun _ _ f => f.elim)).setCell (.inr (.inl rfl)) _⟩
theorem stkUndoI {w : World} {B sb room : Nat} {lv : Value} {l : List Int} (h : StkI w B sb room lv l) (n : Nat) (hn : n ≤ l.length) :
    Calls Try.prog 151 #[.pointer (some ⟨sb, 0, none⟩), .int .i64 n] w fun e w' => ∃ v lv', e = .returned (.tuple #[v, .bool true]) ∧ Row w' 2 1 v (l.length - n) ((l.drop n).map (Value.int .i64)).reverse ∧ (∀ k, v.ownBlock = some k → w.heap.size ≤ k) ∧
      StkI w' B sb room lv' (l.take n) ∧ lv'.ownBlock = lv.ownBlock ∧ Turned (Mine2 sb lv) w w' := by
  rcases h.row.2 with ⟨rfl, hl⟩ | ⟨g, cap, cur, rfl, _⟩
  · obtain rfl : l = [] := List.eq_nil_of_length_eq_zero hl
    obtain rfl : n = 0 := by simpa using hn
    refine (stkUndoI_nil h).mono fun e w' ⟨he, h1, h2⟩ => ⟨_, _, he, by simpa using Row.nil _ _ _, by simp [Value.ownBlock], by simpa using h1, rfl, h2⟩
  · exact stkUndoI_some h n hn
end Go.Proofs.Ytoihjobdfjajfaa
namespace Go.Proofs.Ytoihjobdfjajfaa
open Go.RowKit Go.Maps
set_option linter.unusedVariables false
set_option linter.unusedSimpArgs false
theorem ptrs_unset {m : Nat} {l : TL} {i : Int} {c : Nat × LT} (h0 : 0 ≤ i) (h1 : i < (m : Int)) (hl : lookL l i = none) : (ptrs m ((i, c) :: l)).set i.toNat (.pointer none) = ptrs m l := by
  refine List.ext_getElem? (fun j => ?_)
  by_cases hj : j < m
  · rw [ptrs_at (l := l) hj]
    by_cases he : i.toNat = j
    · subst he
      rw [List.getElem?_set_self (by rw [ptrs_length]; omega), Int.toNat_of_nonneg h0, hl]
      rfl
    · rw [List.getElem?_set_ne he, ptrs_at hj]
      simp only [lookL]
      rw [if_neg (by omega)]
  · rw [List.getElem?_eq_none (by rw [List.length_set, ptrs_length]; omega), List.getElem?_eq_none (by rw [ptrs_length]; omega)]
section
variable {p : Nat → Prop} {bb sb m : Nat} {lv tv : Value} {l : TL} {w w' : World}
theorem BI.undo {tv' : Value} {k : Nat} (h : BI p bb sb lv tv m l w) (ht : Turned (fun k => k = sb ∨ lv.ownBlock = some k ∨ tv.ownBlock = some k) w w') (hs : w'.heap[sb]? = some (.cells #[.int .i64 65536, tv'] 209 (0, 0)))
    (hr : Row w' 165 1 lv m (ptrs m (l.drop k))) (htr : Row w' 2 1 tv' (l.drop k).length (((l.drop k).map fun b => Value.int .i64 b.1).reverse)) (ho : tv'.ownBlock = tv.ownBlock) : BI p bb sb lv tv' m (l.drop k) w' := by
  obtain ⟨n1, n2, n3, n4, n5, n6⟩ := h.ne
  have hbl := (Array.getElem?_eq_some_iff.1 h.b).1
  have hown : ∀ k, ownK bb sb lv tv' k → ownK bb sb lv tv k := by
    rintro k (e | e | e | e)
    · exact .inl e
    · exact .inr (.inl e)
    · exact .inr (.inr (.inl e))
    · exact .inr (.inr (.inr (ho ▸ e)))
  refine ⟨(ht.block _ hbl (fun e => e.elim n1 (fun e => e.elim n2 n4))).trans h.b, hs, hr, htr, fun b hb => ?_, ?_, h.most, ⟨n1, n2, n3, by rw [ho]; exact n4, by rw [ho]; exact n5, fun k hk => by rw [ho]; exact n6 k hk⟩, fun k hk => ⟨Nat.lt_of_lt_of_le (h.sep k hk).1 ht.size, fun c => (h.sep k hk).2 (hown k c)⟩⟩
  · obtain ⟨t1, t2, t3⟩ := h.terms b (List.mem_of_mem_drop hb)
    exact ⟨(ht.block _ (Array.getElem?_eq_some_iff.1 t1).1 (fun e => t3 (.inr e))).trans t1, LT.In.turned ht (fun k hk hq e => (h.sep k hq).2 (.inr e)) (fun k hk hq => hq) _ t2, fun e => t3 (hown _ e)⟩
  · have := Tm.okT_drop k h.ok
    unfold bt at this ⊢
    rw [List.map_drop]
    exact this
def UndL (lv : Value) (m : Nat) (l : TL) (N : Nat) (w2 : World) (k : Nat) (i : Value) (wr : World) : Prop :=
  ∃ j : Nat, Hid (j + k = N) ∧ j ≤ N ∧ i = .int .i64 j ∧ Hid (Row wr 165 1 lv m (ptrs m (l.drop j))) ∧ Hid (Turned (fun k => lv.ownBlock = some k) w2 wr)
set_option maxRecDepth 100000 in
set_option maxHeartbeats 3200000 in
theorem undo101 (h : BI p bb sb lv tv m l w) (n : Nat) (hn : n ≤ l.length) :
    Calls Try.prog 101 #[.pointer (some ⟨bb, 0, none⟩), .int .i64 n] w fun e w' => e = .returned (.bool true) ∧ (∃ tv', BI p bb sb lv tv' m (l.drop (l.length - n)) w' ∧ tv'.ownBlock = tv.ownBlock) ∧ Turned (fun k => k = sb ∨ lv.ownBlock = some k ∨ tv.ownBlock = some k) w w' := by
  obtain ⟨n1, n2, n3, n4, n5, n6⟩ := h.ne
  have hlen := h.length
  have hmost := h.most
  obtain ⟨c0, c1, _⟩ := rec2b h.b
  have hst : Stk (α := Int) 209 2 (Value.int .i64) w 0 sb 65536 tv (l.map (·.1)).reverse := ⟨Nat.zero_le _, fun _ _ => Nat.zero_le _, h.s, by
    have := h.trail
    rw [List.length_reverse, List.length_map, List.map_reverse, List.map_map]
    exact this, n5, by omega, by omega, by rw [List.length_reverse, List.length_map]; omega⟩
  have hu := stkUndoI hst n (by rw [List.length_reverse, List.length_map]; exact hn)
  have hdrop : (((l.map (·.1)).reverse.drop n).map (Value.int .i64)).reverse = (l.take (l.length - n)).map fun b => Value.int .i64 b.1 := by
    rw [← List.map_reverse, List.drop_reverse, List.reverse_reverse, List.length_map, ← List.map_take, List.map_map]
    rfl
  have htake : ((l.map (·.1)).reverse.take n) = ((l.drop (l.length - n)).map (·.1)).reverse := by
    rw [List.take_reverse, List.length_map, ← List.map_drop]
  rw [hdrop, htake, List.length_reverse, List.length_map] at hu
  have HU := Lib.hid hu
  have HB := Lib.hid h
  have hbl := (Array.getElem?_eq_some_iff.1 h.b).1
  have hml : l.length - n ≤ 65536 := by omega
  clear hu hst hdrop htake h
  go_enter Try.func101, Try.ntmps101
  go_wp2_with (go_at_call 151; (with_reducible refine HU.out.mono ?_); rintro e w2 ⟨v, tv', rfl, hv, hvn, hs2, ho2, T2⟩; obtain ⟨va, vc, rfl⟩ := hv.shape; have HV := Lib.hid hv; have HVN := Lib.hid hvn; have HS2 := Lib.hid hs2; have HO2 := Lib.hid ho2; have T2' : Turned (fun k => k = sb ∨ tv.ownBlock = some k) w w2 := T2; have HT2 := Lib.hid T2'; clear hv hvn hs2 ho2 T2 T2' c0 c1)
  have hbb := HT2.out.block bb hbl (fun e => e.elim n1 n4)
  have HB2 := Lib.hid (hbb.trans HB.out.b)
  have HR2 : Hid (Row w2 165 1 lv m (ptrs m (l.drop 0))) := HB.out.row.turned HT2.out (fun k hk e => by
    rcases e with e | e
    · exact n3 (e ▸ hk)
    · exact n6 k hk e)
  clear hbb
  go_loopg [20] (l.length - n) (fun k i wr => UndL lv m l (l.length - n) w2 k i wr)
  case atStart => exact ⟨0, Nat.zero_add _, Nat.zero_le _, rfl, HR2, Turned.refl _ _⟩
  case round =>
    obtain ⟨j, HG, hj, rfl, HR, HT⟩ := hrel
    have hbr := (HT.out.block bb (Array.getElem?_eq_some_iff.1 HB2.out).1 n2).trans HB2.out
    obtain ⟨b0, b1, _⟩ := rec2b hbr
    clear hbr
    by_cases hjl : j < l.length - n
    · obtain ⟨⟨i, c⟩, hx⟩ : ∃ x, l[j]? = some x := ⟨_, List.getElem?_eq_getElem (by omega)⟩
      have hmem := HB.out.ok
      have hin : (i, c.2.bare) ∈ bt l := List.mem_map.2 ⟨_, List.mem_of_getElem? hx, rfl⟩
      obtain ⟨i0, i1, _⟩ := Tm.okT_mem hmem hin
      have i0 : 0 ≤ i := i0
      have i1 : i < (m : Int) := i1
      have hdj : l.drop j = (i, c) :: l.drop (j + 1) := by
        rw [List.drop_eq_getElem_cons (by omega)]
        congr 1
        have := List.getElem?_eq_getElem (l := l) (i := j) (by omega)
        rw [hx] at this
        exact (Option.some.inj this).symm
      have hno : lookL (l.drop (j + 1)) i = none := by
        have hok := Tm.okT_drop j HB.out.ok
        have e : (bt l).drop j = (i, c.2.bare) :: bt (l.drop (j + 1)) := by unfold bt; rw [← List.map_drop, hdj]; rfl
        rw [e] at hok
        have h3 := Tm.look_none.2 hok.2.2.2.1
        rw [look_bt] at h3
        cases hq : lookL (l.drop (j + 1)) i with
        | none => rfl
        | some q => rw [hq] at h3; cases h3
      obtain ⟨g, cl, hle⟩ := HR.out.shape_pos (by omega)
      subst hle
      have hmx := HR.out.max
      have hrw := HR.out
      rw [hdj] at hrw
      have hset := hrw.setAt (off := i.toNat) (by omega) (.pointer none)
      rw [ptrs_unset i0 i1 hno] at hset
      have hrf := hrw.free rfl i.toNat
      have hrc := hrw.cells rfl i.toNat _ (ptrs_at (by omega))
      have hvr := HV.out.turned HT.out (fun k hk e => by
        have h1 := HVN.out k hk
        have h2 := HB.out.row.lt k e
        omega)
      obtain ⟨gv, cap, he⟩ := hvr.shape_pos (by omega)
      injection he with q1 _ q3
      subst q1 q3
      have hvc := hvr.cells rfl j (.int .i64 i) (by rw [List.getElem?_map, List.getElem?_take_of_lt hjl, hx]; rfl)
      have HST := Lib.hid hset
      clear hx hmem hin hdj hno hrw hset hvr
      have h64 : IntKind.i64.wrap i = i := wrapI (by omega) (by omega)
      go_wp2_with fail
      go_roundg (gk - 1)
      case measure => have := HG.out; omega
      case rel => exact ⟨j + 1, show _ = _ by have := HG.out; omega, by omega, by go_num, HST, HT.out.setCell (p := ⟨g, i.toNat, none⟩) (.inr rfl) _⟩
    · obtain rfl : j = l.length - n := by omega
      go_wp2_with fail
      go_ret
      have hs3 := (HT.out.block sb (Array.getElem?_eq_some_iff.1 HS2.out.blk).1 n3).trans HS2.out.blk
      have htr := HS2.out.row.turned HT.out (fun k hk e => n6 k e (by rw [← HO2.out]; exact hk))
      rw [List.length_reverse, List.length_map, List.map_reverse, List.map_map] at htr
      refine ⟨rfl, ⟨tv', HB.out.undo ((HT2.out.mono (fun k _ e => e.elim .inl (fun e => .inr (.inr e)))).trans (HT.out.mono (fun k _ e => .inr (.inl e)))) hs3 HR.out htr HO2.out, HO2.out⟩, (HT2.out.mono (fun k _ e => e.elim .inl (fun e => .inr (.inr e)))).trans (HT.out.mono (fun k _ e => .inr (.inl e)))⟩
end
end Go.Proofs.Ytoihjobdfjajfaa
