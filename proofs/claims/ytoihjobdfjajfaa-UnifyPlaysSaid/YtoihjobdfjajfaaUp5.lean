/- Merged texts: BU2, DP3, BU3, BU4, DP4, RL6, BR1, BL1. -/
import Derived.Test.YtoihjobdfjajfaaUp4
import Derived.OwnWalk
namespace Go.Proofs.Ytoihjobdfjajfaa
open Go.RowKit Go.Maps
set_option linter.unusedVariables false
set_option linter.unusedSimpArgs false
def WkS (p : Nat → Prop) (X0 Y0 : Tm Unit) (N : Nat) (w2 : World) : List Value → World → Prop
  | [], W => Turned (fun _ => False) w2 W
  | [a], W => Turned (fun _ => False) w2 W ∧ ∃ X : LT, a = .agg #[.int .i64 X.kind, .int .i64 X.n, .string X.name, .slice X.at_.1 X.args.length X.at_.2] ∧ X.In p W ∧ X.bare = X0
  | [a, b], W => Turned (fun _ => False) w2 W ∧ (∃ X : LT, a = .agg #[.int .i64 X.kind, .int .i64 X.n, .string X.name, .slice X.at_.1 X.args.length X.at_.2] ∧ X.In p W ∧ X.bare = X0) ∧ ∃ Y : LT, b = .agg #[.int .i64 Y.kind, .int .i64 Y.n, .string Y.name, .slice Y.at_.1 Y.args.length Y.at_.2] ∧ Y.In p W ∧ Y.bare = Y0
  | [_, b, _], W => Turned (fun k => k = N) w2 W ∧ (∃ X : LT, W.heap[N]? = some (.cells #[.int .i64 X.kind, .int .i64 X.n, .string X.name, .slice X.at_.1 X.args.length X.at_.2] 27 (0, 0)) ∧ X.In p W ∧ X.bare = X0) ∧ ∃ Y : LT, b = .agg #[.int .i64 Y.kind, .int .i64 Y.n, .string Y.name, .slice Y.at_.1 Y.args.length Y.at_.2] ∧ Y.In p W ∧ Y.bare = Y0
  | [_, _, _, _], W => Turned (fun k => k = N ∨ k = N + 1) w2 W ∧ (∃ X : LT, W.heap[N]? = some (.cells #[.int .i64 X.kind, .int .i64 X.n, .string X.name, .slice X.at_.1 X.args.length X.at_.2] 27 (0, 0)) ∧ X.In p W ∧ X.bare = X0) ∧ ∃ Y : LT, W.heap[N + 1]? = some (.cells #[.int .i64 Y.kind, .int .i64 Y.n, .string Y.name, .slice Y.at_.1 Y.args.length Y.at_.2] 27 (0, 0)) ∧ Y.In p W ∧ Y.bare = Y0
  | _, _ => False
section
variable {p : Nat → Prop} {X0 Y0 : Tm Unit} {N : Nat} {w2 W W' : World}
theorem WkS.turned0 : ∀ (hs : List Value) (w w' : World), WkS p X0 Y0 N w2 hs w → Turned (fun _ => False) w w' → WkS p X0 Y0 N w2 hs w'
  | [], _, _, h, T => Turned.trans h T
  | [_], _, _, h, T => by obtain ⟨h1, X, x1, x2, x3⟩ := h; exact ⟨h1.trans T, X, x1, x2.turned0 T, x3⟩
  | [_, _], _, _, h, T => by obtain ⟨h1, ⟨X, x1, x2, x3⟩, Y, y1, y2, y3⟩ := h; exact ⟨h1.trans T, ⟨X, x1, x2.turned0 T, x3⟩, Y, y1, y2.turned0 T, y3⟩
  | [_, _, _], _, _, h, T => by obtain ⟨h1, ⟨X, x1, x2, x3⟩, Y, y1, y2, y3⟩ := h; exact ⟨h1.trans (T.mono (fun _ _ f => f.elim)), ⟨X, (T.block _ (Array.getElem?_eq_some_iff.1 x1).1 (fun f => f)).trans x1, x2.turned0 T, x3⟩, Y, y1, y2.turned0 T, y3⟩
  | [_, _, _, _], _, _, h, T => by obtain ⟨h1, ⟨X, x1, x2, x3⟩, Y, y1, y2, y3⟩ := h; exact ⟨h1.trans (T.mono (fun _ _ f => f.elim)), ⟨X, (T.block _ (Array.getElem?_eq_some_iff.1 x1).1 (fun f => f)).trans x1, x2.turned0 T, x3⟩, Y, (T.block _ (Array.getElem?_eq_some_iff.1 y1).1 (fun f => f)).trans y1, y2.turned0 T, y3⟩
  | _ :: _ :: _ :: _ :: _ :: _, _, _, h, _ => h.elim
theorem WkS.turned : ∀ (hs : List Value) (W : World), WkS p X0 Y0 N w2 hs W → Turned (fun k => k = N ∨ k = N + 1) w2 W
  | [], _, h => Turned.mono h (fun _ _ f => f.elim)
  | [_], _, h => h.1.mono (fun _ _ f => f.elim)
  | [_, _], _, h => h.1.mono (fun _ _ f => f.elim)
  | [_, _, _], _, h => h.1.mono (fun _ _ e => .inl e)
  | [_, _, _, _], _, h => h.1
  | _ :: _ :: _ :: _ :: _ :: _, _, h => h.elim
theorem WkS.early : ∀ (hs : List Value) (W : World), hs.length ≤ 2 → WkS p X0 Y0 N w2 hs W → Turned (fun _ => False) w2 W
  | [], _, _, h => h
  | [_], _, _, h => h.1
  | [_, _], _, _, h => h.1
theorem WkS.store1 {a b q : Value} {X : LT} (h : WkS p X0 Y0 N w2 [a, b] W) (hX : a = .agg #[.int .i64 X.kind, .int .i64 X.n, .string X.name, .slice X.at_.1 X.args.length X.at_.2]) (hXi : X.In p W) (hXb : X.bare = X0) (hN : ∃ a0 b0 c0 d0, W.heap[N]? = some (.cells #[a0, b0, c0, d0] 27 (0, 0))) (hp : ¬ p N) :
    WkS p X0 Y0 N w2 [a, b, q] ((((W.setCell ⟨N, 0, none⟩ (.int .i64 X.kind)).setCell ⟨N, 1, none⟩ (.int .i64 X.n)).setCell ⟨N, 2, none⟩ (.string X.name)).setCell ⟨N, 3, none⟩ (.slice X.at_.1 X.args.length X.at_.2)) := by
  obtain ⟨h1, _, Y, y1, y2, y3⟩ := h
  obtain ⟨a0, b0, c0, d0, hN⟩ := hN
  have T := turned_store4 W N (.int .i64 X.kind) (.int .i64 X.n) (.string X.name) (.slice X.at_.1 X.args.length X.at_.2)
  have hs := set4 (a' := .int .i64 X.kind) (b' := .int .i64 X.n) (c' := .string X.name) (d' := .slice X.at_.1 X.args.length X.at_.2) hN
  exact ⟨(h1.mono (fun _ _ f => f.elim)).trans T, ⟨X, hs, LT.In.turned T (fun k _ hk e => hp (e ▸ hk)) (fun _ _ hk => hk) _ hXi, hXb⟩, Y, y1, LT.In.turned T (fun k _ hk e => hp (e ▸ hk)) (fun _ _ hk => hk) _ y2, y3⟩
theorem WkS.store2 {a b c q : Value} {Y : LT} (h : WkS p X0 Y0 N w2 [a, b, c] W) (hYi : Y.In p W) (hYb : Y.bare = Y0) (hN : ∃ a0 b0 c0 d0, W.heap[N + 1]? = some (.cells #[a0, b0, c0, d0] 27 (0, 0))) (hp : ¬ p (N + 1)) :
    WkS p X0 Y0 N w2 [a, b, c, q] ((((W.setCell ⟨N + 1, 0, none⟩ (.int .i64 Y.kind)).setCell ⟨N + 1, 1, none⟩ (.int .i64 Y.n)).setCell ⟨N + 1, 2, none⟩ (.string Y.name)).setCell ⟨N + 1, 3, none⟩ (.slice Y.at_.1 Y.args.length Y.at_.2)) := by
  obtain ⟨h1, ⟨X, x1, x2, x3⟩, _⟩ := h
  obtain ⟨a0, b0, c0, d0, hN⟩ := hN
  have T := turned_store4 W (N + 1) (.int .i64 Y.kind) (.int .i64 Y.n) (.string Y.name) (.slice Y.at_.1 Y.args.length Y.at_.2)
  have hs := set4 (a' := .int .i64 Y.kind) (b' := .int .i64 Y.n) (c' := .string Y.name) (d' := .slice Y.at_.1 Y.args.length Y.at_.2) hN
  exact ⟨(h1.mono (fun _ _ e => .inl e)).trans (T.mono (fun _ _ e => .inr e)), ⟨X, (T.block N (Array.getElem?_eq_some_iff.1 x1).1 (by omega)).trans x1, LT.In.turned T (fun k _ hk e => hp (e ▸ hk)) (fun _ _ hk => hk) _ x2, x3⟩, Y, hs, LT.In.turned T (fun k _ hk e => hp (e ▸ hk)) (fun _ _ hk => hk) _ hYi, hYb⟩
end
theorem info187 : (Try.prog.info? 187).map (fun i => (i.zero, i.size, i.bytes)) = some (some (.agg #[.int .i64 0, .int .i64 0, .string ByteArray.empty, .slice none 0 0, .int .i64 0, .int .i64 0, .string ByteArray.empty, .slice none 0 0]), 8, 112) := by kernel_rfl
theorem brings_build187 {o : Oper} {a : Act} {w : World} {F : Value → World → Prop} (x y : Tmp) (ho : o.op = Op.build 187 #[(0, .tmp x), (1, .tmp y)]) {a0 a1 a2 a3 b0 b1 b2 b3 : Value} (hx : a.tmps.getD x undef = .agg #[a0, a1, a2, a3]) (hy : a.tmps.getD y undef = .agg #[b0, b1, b2, b3])
    (h : F (.agg #[a0, a1, a2, a3, b0, b1, b2, b3]) w) : Brings Try.prog F ((execOp a.eval o).run Try.prog w) := by
  have e : ∀ q, a.eval (.tmp q) = a.tmps.getD q undef := fun _ => rfl
  unfold execOp
  simp only [ho, List.map_toArray, List.map_cons, List.map_nil, e, hx, hy]
  go_simp
  exact h
theorem brings_slice188 {o : Oper} {a : Act} {w : World} {F : Value → World → Prop} (x : Tmp) (ho : o.op = Op.buildSlice 188 1 #[(0, .tmp x)]) {a0 a1 a2 a3 b0 b1 b2 b3 : Value} (hx : a.tmps.getD x undef = .agg #[a0, a1, a2, a3, b0, b1, b2, b3])
    (h : F (.slice (some ⟨w.heap.size, 0, none⟩) 1 1) (w.alloc (.cells #[a0, a1, a2, a3, b0, b1, b2, b3] 187))) : Brings Try.prog F ((execOp a.eval o).run Try.prog w) := by
  have hx' : a.tmps[x]?.getD undef = .agg #[a0, a1, a2, a3, b0, b1, b2, b3] := by rw [← Array.getD_eq_getD_getElem?]; exact hx
  simp only [execOp, ho, Act.eval]
  go_simp
  exact h
section
variable {l : Tm.Trail} {left : Nat} {X Y : LT}
theorem oneU_same (hx : X.kind = 0) (hy : Y.kind = 0) (hn : X.n = Y.n) : Tm.oneU l left X.bare Y.bare = .done (.ok l left) := by
  unfold Tm.oneU; rw [if_pos (by rw [Tm.bare_kind]; exact hx), if_pos (by rw [Tm.bare_kind]; exact hy), if_pos (by rw [Tm.bare_n, Tm.bare_n]; exact hn)]
theorem oneU_vars (hx : X.kind = 0) (hy : Y.kind = 0) (hn : ¬ X.n = Y.n) : Tm.oneU l left X.bare Y.bare = .done (.ok ((max X.n Y.n, Tm.V (min X.n Y.n)) :: l) left) := by
  unfold Tm.oneU; rw [if_pos (by rw [Tm.bare_kind]; exact hx), if_pos (by rw [Tm.bare_kind]; exact hy), if_neg (by rw [Tm.bare_n, Tm.bare_n]; exact hn), Tm.bare_n, Tm.bare_n]
theorem oneU_left (hx : X.kind = 0) (hy : ¬ Y.kind = 0) : Tm.oneU l left X.bare Y.bare = .done (Tm.tieU l left X.n Y.bare) := by
  unfold Tm.oneU; rw [if_pos (by rw [Tm.bare_kind]; exact hx), if_neg (by rw [Tm.bare_kind]; exact hy), Tm.bare_n]
theorem oneU_right (hx : ¬ X.kind = 0) (hy : Y.kind = 0) : Tm.oneU l left X.bare Y.bare = .done (Tm.tieU l left Y.n X.bare) := by
  unfold Tm.oneU; rw [if_neg (by rw [Tm.bare_kind]; exact hx), if_pos (by rw [Tm.bare_kind]; exact hy), Tm.bare_n]
theorem oneU_heads (hx : ¬ X.kind = 0) (hy : ¬ Y.kind = 0) : Tm.oneU l left X.bare Y.bare = if X.kind = Y.kind ∧ X.n = Y.n ∧ X.name = Y.name ∧ X.args.length = Y.args.length then .more (X.bare.args.zip Y.bare.args) else .done (.no left) := by
  unfold Tm.oneU
  rw [if_neg (by rw [Tm.bare_kind]; exact hx), if_neg (by rw [Tm.bare_kind]; exact hy)]
  have h := Tm.headsB_iff (x := X.bare) (y := Y.bare)
  rw [Tm.bare_kind, Tm.bare_kind, Tm.bare_n, Tm.bare_n, Tm.bare_name, Tm.bare_name, Tm.bare_arity, Tm.bare_arity] at h
  by_cases hh : Tm.headsB X.bare Y.bare = true
  · rw [if_pos hh, if_pos (h.1 hh)]
  · rw [if_neg hh, if_neg (fun c => hh (h.2 c))]
theorem setE_vars {m : Nat} {l : Tm.Trail} {n k : Int} (hl : Tm.okT m l) (hm : m ≤ 65536) (n0 : 0 ≤ n) (n1 : n < (m : Int)) (k0 : 0 ≤ k) (k1 : k < (m : Int)) (hn : n ∉ Tm.dom l) (hk : k ∉ Tm.dom l) (hne : ¬ n = k) : Tm.setE m l n (Tm.V k) = 0 := by
  unfold Tm.setE
  rw [if_pos ⟨n0, n1, Tm.ownB_V k0 k1 hm⟩, if_neg hn, if_neg]
  rw [Tm.img_V, Tm.sig_free hl hk, Tm.vars_mem, Tm.numsIn_V]
  exact hne
end
theorem UA.from {p O : Nat → Prop} {bb K m : Nat} {v : Value} {st : List PT} {c : Int} {l' : Tm.Trail} {w w3 w' : World} (T : Turned (fun _ => False) w w3) (h : UA p bb K v st c O m l' w3 w') : UA p bb K v st c O m l' w w' := by
  obtain ⟨l2, O', h1, h2, h3, h4⟩ := h
  exact ⟨l2, O', h1, h2, fun k hk hl => h3 k hk (Nat.lt_of_lt_of_le hl T.size), (T.mono (fun _ _ f => f.elim)).trans h4⟩
theorem After.from0 {p O : Nat → Prop} {bb m : Nat} {l : TL} {w w3 w' : World} (h : After p bb O m l w3 w') (T : Turned (fun _ => False) w w3) : After p bb O m l w w' := by
  obtain ⟨O', h1, h2, h3⟩ := h
  exact ⟨O', h1, fun k hk hl => h2 k hk (Nat.lt_of_lt_of_le hl T.size), (T.mono (fun _ _ f => f.elim)).trans h3⟩
theorem setVar {p O : Nat → Prop} {bb m : Nat} {l : TL} {w : World} {n k : Int} (h : BO p bb O m l w) (hn : I64 n) (hk : I64 k) (hE : Tm.setE m (bt l) n (Tm.V k) = 0) :
    Calls Try.prog 88 #[.pointer (some ⟨bb, 0, none⟩), .int .i64 n, .agg #[.int .i64 0, .int .i64 k, .string ByteArray.empty, .slice none 0 0]] w fun e w' => e = .returned (.int .i64 0) ∧ ∃ l', bt l' = (n, Tm.V k) :: bt l ∧ After p bb O m l' w w' := by
  have := setO88 h (t := leaf 0 k ByteArray.empty) (var_in hk) (leaf_slim _ _ _) n hn
  have e : (leaf 0 k ByteArray.empty).bare = Tm.V k := rfl
  rw [e, hE, if_pos rfl] at this
  exact this
def VarS (p : Nat → Prop) (bb : Nat) (O : Nat → Prop) (m : Nat) (l : TL) (n k : Int) (w3 : World) : List Value → World → Prop
  | [], W => Turned (fun _ => False) w3 W
  | [a], W => Turned (fun _ => False) w3 W ∧ a = .agg #[.int .i64 0, .int .i64 k, .string ByteArray.empty, .slice none 0 0]
  | [_, b], W => b = .int .i64 0 ∧ ∃ l', bt l' = (n, Tm.V k) :: bt l ∧ After p bb O m l' w3 W
  | _, _ => False
section
variable {p O : Nat → Prop} {bb m : Nat} {l : TL} {n k : Int} {w3 : World}
theorem VarS.turned0 : ∀ (hs : List Value) (w w' : World), VarS p bb O m l n k w3 hs w → Turned (fun _ => False) w w' → VarS p bb O m l n k w3 hs w'
  | [], _, _, h, T => Turned.trans h T
  | [_], _, _, h, T => ⟨h.1.trans T, h.2⟩
  | [_, _], _, _, ⟨h1, l', h2, h3⟩, T => ⟨h1, l', h2, h3.turned0 T⟩
  | _ :: _ :: _ :: _, _, _, h, _ => h.elim
theorem VarS.turned : ∀ (hs : List Value) (W : World), hs.length ≤ 1 → VarS p bb O m l n k w3 hs W → Turned (fun _ => False) w3 W
  | [], _, _, h => h
  | [_], _, _, h => h.1
theorem VarS.val : ∀ (hs : List Value) (W : World) {x : Value}, VarS p bb O m l n k w3 hs W → hs[1]? = some x → x = .int .i64 0
  | [], _, _, _, e => by simp at e
  | [_], _, _, _, e => by simp at e
  | [_, _], _, _, h, e => by simp at e; rw [← e]; exact h.1
  | _ :: _ :: _ :: _, _, _, h, _ => h.elim
end
def PsS (bb K : Nat) (v : Value) (n : Nat) (xs : List Value) (c : Int) (X Y : LT) (wr : World) : List Value → World → Prop
  | [], W => Turned (fun _ => False) wr W
  | [s], W => Turned (fun _ => False) wr W ∧ ∃ g0, s = .slice (some ⟨g0, 0, none⟩) 1 1 ∧ W.heap[g0]? = some (.cells #[.int .i64 X.kind, .int .i64 X.n, .string X.name, .slice X.at_.1 X.args.length X.at_.2, .int .i64 Y.kind, .int .i64 Y.n, .string Y.name, .slice Y.at_.1 Y.args.length Y.at_.2] 187 (0, 0))
  | [_, a], W => Row W 187 8 a (n + 1) (xs ++ PT.cells (X, Y)) ∧ (a.ownBlock = v.ownBlock ∨ ∀ g, a.ownBlock = some g → wr.heap.size ≤ g) ∧ Turned (fun k => v.ownBlock = some k) wr W
  | [_, a, _], W => Row W 187 8 a (n + 1) (xs ++ PT.cells (X, Y)) ∧ (a.ownBlock = v.ownBlock ∨ ∀ g, a.ownBlock = some g → wr.heap.size ≤ g) ∧ Turned (fun k => k = K ∨ v.ownBlock = some k) wr W ∧ W.heap[K]? = some (.cells #[.pointer (some ⟨bb, 0, none⟩), a, .int .i64 c] 190 (0, 0))
  | _, _ => False
section
variable {bb K n : Nat} {v : Value} {xs : List Value} {c : Int} {X Y : LT} {wr W W' : World}
theorem PsS.turned0 : ∀ (hs : List Value) (w w' : World), PsS bb K v n xs c X Y wr hs w → Turned (fun _ => False) w w' → PsS bb K v n xs c X Y wr hs w'
  | [], _, _, h, T => Turned.trans h T
  | [_], _, _, ⟨h1, g0, h2, h3⟩, T => ⟨h1.trans T, g0, h2, (T.block _ (Array.getElem?_eq_some_iff.1 h3).1 (fun f => f)).trans h3⟩
  | [_, _], _, _, ⟨h1, h2, h3⟩, T => ⟨h1.turned0 T, h2, h3.trans (T.mono (fun _ _ f => f.elim))⟩
  | [_, _, _], _, _, ⟨h1, h2, h3, h4⟩, T => ⟨h1.turned0 T, h2, h3.trans (T.mono (fun _ _ f => f.elim)), (T.block _ (Array.getElem?_eq_some_iff.1 h4).1 (fun f => f)).trans h4⟩
  | _ :: _ :: _ :: _ :: _, _, _, h, _ => h.elim
theorem PsS.turned : ∀ (hs : List Value) (W : World), hs.length ≤ 2 → PsS bb K v n xs c X Y wr hs W → Turned (fun k => v.ownBlock = some k) wr W
  | [], _, _, h => Turned.mono h (fun _ _ f => f.elim)
  | [_], _, _, h => h.1.mono (fun _ _ f => f.elim)
  | [_, _], _, _, h => h.2.2
end
theorem UK.push {p O : Nat → Prop} {bb K m : Nat} {v a : Value} {st : List PT} {c : Int} {l : TL} {wr W : World} {X Y : LT} (h : UK p bb K v st c O m l wr) (hX : X.In p wr ∧ Tm.ownB m X.bare = true) (hY : Y.In p wr ∧ Tm.ownB m Y.bare = true) (hr : Row W 187 8 a (st.length + 1) (st.flatMap PT.cells ++ PT.cells (X, Y))) (ho : a.ownBlock = v.ownBlock ∨ ∀ g, a.ownBlock = some g → wr.heap.size ≤ g) (T : Turned (fun k => k = K ∨ v.ownBlock = some k) wr W) (hk : W.heap[K]? = some (.cells #[.pointer (some ⟨bb, 0, none⟩), a, .int .i64 c] 190 (0, 0))) :
    UK p bb K a (st ++ [(X, Y)]) c O m l W := by
  have hS : ∀ k, k < wr.heap.size → (k = K ∨ v.ownBlock = some k) → ¬ O k ∧ ¬ p k := fun k _ e => by
    rcases e with e | e
    · rw [e]; exact h.kO
    · exact ⟨(h.vO k e).1, (h.vO k e).2.1⟩
  have hp : ∀ q : LT, q.In p wr → q.In p W := fun q hq => LT.In.turned T (fun k hl hk e => (hS k hl e).2 hk) (fun _ _ hk => hk) q hq
  refine ⟨h.bo.turned T hS, hk, by simpa using hr, fun q hq => ?_, h.kO, fun g hg => ?_⟩
  · rcases List.mem_append.1 hq with hq | hq
    · exact ⟨⟨hp _ (h.mem q hq).1.1, (h.mem q hq).1.2⟩, hp _ (h.mem q hq).2.1, (h.mem q hq).2.2⟩
    · rw [List.mem_singleton] at hq
      rw [hq]
      exact ⟨⟨hp _ hX.1, hX.2⟩, hp _ hY.1, hY.2⟩
  · rcases ho with e | e
    · exact h.vO g (e ▸ hg)
    · have h1 := e g hg
      exact ⟨fun c => by have := h.bo.lt g c; omega, fun c => by have := h.bo.plt g c; omega, fun c => by have := (Array.getElem?_eq_some_iff.1 h.k).1; omega⟩
def OneL (p : Nat → Prop) (bb K : Nat) (v : Value) (st : List PT) (c : Nat) (O : Nat → Prop) (m : Nat) (l : TL) (X Y : LT) (N : Nat) (w3 : World) (q : Nat) (i : Value) (wr : World) : Prop :=
  Hid (q ≤ X.args.length) ∧ i = .int .i64 ((q : Int) - 1) ∧ ∃ v', Hid (UK p bb K v' (st ++ ((X.args.zip Y.args).drop q).reverse) c O m l wr) ∧ Hid (v'.ownBlock = v.ownBlock ∨ ∀ g, v'.ownBlock = some g → w3.heap.size ≤ g) ∧ wr.heap[N]? = some (.cells #[.int .i64 X.kind, .int .i64 X.n, .string X.name, .slice X.at_.1 X.args.length X.at_.2] 27 (0, 0)) ∧ wr.heap[N + 1]? = some (.cells #[.int .i64 Y.kind, .int .i64 Y.n, .string Y.name, .slice Y.at_.1 Y.args.length Y.at_.2] 27 (0, 0)) ∧ Hid (X.In p wr ∧ Y.In p wr) ∧ Hid (Turned (ownU K v O) w3 wr)
def OQ (p : Nat → Prop) (bb K : Nat) (v : Value) (st : List PT) (c : Nat) (O : Nat → Prop) (m : Nat) (l : TL) (w : World) : Tm.UStep → Ending → World → Prop
  | .done r, e, w' => ∃ v', v' = v ∧ UQ p bb K v' st O m l w r e w'
  | .more ps, e, w' => e = .returned (.tuple #[.bool true, .int .i64 0]) ∧ ∃ (v' : Value) (qs : List PT), UK p bb K v' (st ++ qs.reverse) c O m l w' ∧ qs.map (fun q => (q.1.bare, q.2.bare)) = ps ∧ (v'.ownBlock = v.ownBlock ∨ ∀ g, v'.ownBlock = some g → w.heap.size ≤ g) ∧ Turned (ownU K v O) w w'
section
variable {p O : Nat → Prop} {bb K m : Nat} {v : Value} {st : List PT} {c : Nat} {l : TL} {w w' : World}
set_option maxRecDepth 100000 in
set_option maxHeartbeats 12800000 in
theorem one173 {x y : LT} (h : UK p bb K v st c O m l w) (hc : c ≤ 2000) (hsl : st.length ≤ 20000) (hx : x.In p w) (gx : Tm.ownB m x.bare = true) (hy : y.In p w) (gy : Tm.ownB m y.bare = true) :
    Calls Try.prog 173 #[.pointer (some ⟨K, 0, none⟩), x.val, y.val] w (OQ p bb K v st c O m l w (Tm.oneU (bt l) (2000 - c) (Tm.walkT (bt l) x.bare) (Tm.walkT (bt l) y.bare))) := by
  have h2 := twoBox w (.cells #[.int .i64 x.kind, .int .i64 x.n, .string x.name, .slice x.at_.1 x.args.length x.at_.2] 27) (.cells #[.int .i64 y.kind, .int .i64 y.n, .string y.name, .slice y.at_.1 y.args.length y.at_.2] 27)
  obtain ⟨w2, hw2⟩ : ∃ z, z = (w.alloc (.cells #[.int .i64 x.kind, .int .i64 x.n, .string x.name, .slice x.at_.1 x.args.length x.at_.2] 27)).alloc (.cells #[.int .i64 y.kind, .int .i64 y.n, .string y.name, .slice y.at_.1 y.args.length y.at_.2] 27) := ⟨_, rfl⟩
  rw [← hw2] at h2
  have hbx : ∀ W, Turned (fun _ => False) w2 W → W.heap[w.heap.size]? = some (.cells #[.int .i64 x.kind, .int .i64 x.n, .string x.name, .slice x.at_.1 x.args.length x.at_.2] 27 (0, 0)) ∧ W.heap[w.heap.size + 1]? = some (.cells #[.int .i64 y.kind, .int .i64 y.n, .string y.name, .slice y.at_.1 y.args.length y.at_.2] 27 (0, 0)) := fun W hW => ⟨(hW.block _ (by have := h2.2.1; omega) (fun f => f)).trans h2.2.2.1, (hW.block _ (by have := h2.2.1; omega) (fun f => f)).trans h2.2.2.2⟩
  have hkc : ∀ W, Turned (fun k => k = w.heap.size ∨ k = w.heap.size + 1) w2 W → UK p bb K v st c O m l W := fun W hW => h.turned0 (h2.1.step hW (fun i hi e => by omega))
  have hwx : ∀ W, Turned (fun _ => False) w2 W → Calls Try.prog 90 #[.pointer (some ⟨bb, 0, none⟩), x.val] W fun e w' => ∃ X : LT, e = .returned X.val ∧ X.In p w' ∧ X.bare = Tm.walkT (bt l) x.bare ∧ Turned (fun _ => False) W w' := fun W hW => walkO90 (h.bo.turned0 (h2.1.trans hW)) (hx.turned0 (h2.1.trans hW)) (Tm.good_ones' (Tm.ownB_iff.1 gx).1)
  have hwy : ∀ W, Turned (fun _ => False) w2 W → Calls Try.prog 90 #[.pointer (some ⟨bb, 0, none⟩), y.val] W fun e w' => ∃ X : LT, e = .returned X.val ∧ X.In p w' ∧ X.bare = Tm.walkT (bt l) y.bare ∧ Turned (fun _ => False) W w' := fun W hW => walkO90 (h.bo.turned0 (h2.1.trans hW)) (hy.turned0 (h2.1.trans hW)) (Tm.good_ones' (Tm.ownB_iff.1 gy).1)
  have wdx := Tm.walked h.bo.ok _ x.bare (Nat.le_refl _) (Tm.good_ones' (Tm.ownB_iff.1 gx).1)
  have wdy := Tm.walked h.bo.ok _ y.bare (Nat.le_refl _) (Tm.good_ones' (Tm.ownB_iff.1 gy).1)
  have owx := Tm.walkT_own h.bo.ok _ x.bare (Nat.le_refl _) gx
  have owy := Tm.walkT_own h.bo.ok _ y.bare (Nat.le_refl _) gy
  obtain ⟨X0, hX0⟩ : ∃ z, z = Tm.walkT (bt l) x.bare := ⟨_, rfl⟩
  obtain ⟨Y0, hY0⟩ : ∃ z, z = Tm.walkT (bt l) y.bare := ⟨_, rfl⟩
  rw [← hX0] at hwx wdx owx ⊢
  rw [← hY0] at hwy wdy owy ⊢
  obtain ⟨U, hU⟩ : ∃ z, z = Tm.oneU (bt l) (2000 - c) X0 Y0 := ⟨_, rfl⟩
  rw [← hU]
  rw [LT.val_eq] at hwx hwy ⊢
  rw [LT.val_eq y]
  have HU := Lib.hid hU
  have HWX := Lib.hid hwx
  have HWY := Lib.hid hwy
  have WDX := Lib.hid wdx
  have WDY := Lib.hid wdy
  have OWX := Lib.hid owx
  have OWY := Lib.hid owy
  have HKC := Lib.hid hkc
  have HBX := Lib.hid hbx
  have HW2 := Lib.hid hw2
  have HT2 := Lib.hid h2.1
  have HS2 := Lib.hid h2.2.1
  have hkl := (Array.getElem?_eq_some_iff.1 h.k).1
  have hKN : K ≠ w.heap.size := by omega
  have hKN1 : K ≠ w.heap.size + 1 := by omega
  have hNK : w.heap.size ≠ K := by omega
  have hNK1 : w.heap.size + 1 ≠ K := by omega
  have HUK := Lib.hid h
  have HPN : Hid (¬ p w.heap.size ∧ ¬ p (w.heap.size + 1)) := ⟨fun e => Nat.lt_irrefl _ (h.bo.plt _ e), fun e => by have := h.bo.plt _ e; omega⟩
  clear hU hX0 hY0 hwx hwy wdx wdy owx owy hkc hbx hw2 h2 hx hy gx gy h
  go_enter Try.func173, Try.ntmps173
  go_wp2_with fail
  rw [← HW2.out]
  refine wp_region_hsW [9, 10, 11, 12, 13, 14, 15, 16, 17, 18, 19, 20] [5, 11, 12, 13] [0, 0, 0, 0, 0, 1, 1, 1, 1, 1, 1, 2, 3, 4] [14, 20, 100012, 100013] (fun dd vv => (match dd with | 9 => vv = .pointer (some ⟨K, 0, none⟩) | 10 => vv = .pointer (some ⟨K, 0, none⟩) | 11 => vv = .pointer (some ⟨K, 0, none⟩) | 12 => vv = .pointer (some ⟨bb, 0, none⟩) | 13 => vv = .agg #[.int .i64 x.kind, .int .i64 x.n, .string x.name, .slice x.at_.1 x.args.length x.at_.2] | 15 => vv = .pointer (some ⟨K, 0, none⟩) | 16 => vv = .pointer (some ⟨K, 0, none⟩) | 17 => vv = .pointer (some ⟨K, 0, none⟩) | 18 => vv = .pointer (some ⟨bb, 0, none⟩) | 19 => vv = .agg #[.int .i64 y.kind, .int .i64 y.n, .string y.name, .slice y.at_.1 y.args.length y.at_.2] | _ => True : Prop)) (WkS p X0 Y0 w.heap.size w2) (by kernel_rfl) rfl (by kernel_rfl) (by kernel_rfl) (by kernel_rfl) (by kernel_rfl) (fun w h => h) (fun hs w w' h T => WkS.turned0 hs w w' h T) ?hs ?hQ
  case hs =>
    refine ⟨?s0, ?s1, ?s2, ?s3, ?s4, ?s5, ?s6, ?s7, ?s8, ?s9, ?s10, ?s11, ?s12, ?s13, trivial⟩
    case s0 =>
      refine fun hs hle => stepG_free [] [0] (by kernel_rfl) rfl ?_
      intro ac W hT hI hO
      have hle : hs.length ≤ 0 := hle
      have h0 : ac.tmps.getD 0 undef = .pointer (some ⟨K, 0, none⟩) := hO 0 (by simp)
      show Brings Try.prog (fun vv w' => Turned (fun _ => False) W w' ∧ vv = .pointer (some ⟨K, 0, none⟩)) _
      simp only [execOp, Act.eval, h0]
      go_simp
      try exact ⟨Turned.refl _ _, rfl⟩
    case s1 =>
      refine fun hs hle => stepG_free [9] [] (by kernel_rfl) rfl ?_
      intro ac W hT hI hO
      have hle : hs.length ≤ 0 := hle
      have h9 : ac.tmps.getD 9 undef = .pointer (some ⟨K, 0, none⟩) := hI 9 (by simp)
      show Brings Try.prog (fun vv w' => Turned (fun _ => False) W w' ∧ vv = .pointer (some ⟨K, 0, none⟩)) _
      obtain ⟨k0, k1, k2, kf1, kf2⟩ := (HKC.out W (WkS.turned hs W hT)).kcells
      simp only [execOp, Act.eval, h9]
      go_simp
      try exact ⟨Turned.refl _ _, rfl⟩
    case s2 =>
      refine fun hs hle => stepG_free [10] [] (by kernel_rfl) rfl ?_
      intro ac W hT hI hO
      have hle : hs.length ≤ 0 := hle
      have h10 : ac.tmps.getD 10 undef = .pointer (some ⟨K, 0, none⟩) := hI 10 (by simp)
      show Brings Try.prog (fun vv w' => Turned (fun _ => False) W w' ∧ vv = .pointer (some ⟨K, 0, none⟩)) _
      simp only [execOp, Act.eval, h10]
      go_simp
      try exact ⟨Turned.refl _ _, rfl⟩
    case s3 =>
      refine fun hs hle => stepG_free [11] [] (by kernel_rfl) rfl ?_
      intro ac W hT hI hO
      have hle : hs.length ≤ 0 := hle
      have h11 : ac.tmps.getD 11 undef = .pointer (some ⟨K, 0, none⟩) := hI 11 (by simp)
      show Brings Try.prog (fun vv w' => Turned (fun _ => False) W w' ∧ vv = .pointer (some ⟨bb, 0, none⟩)) _
      obtain ⟨k0, k1, k2, kf1, kf2⟩ := (HKC.out W (WkS.turned hs W hT)).kcells
      simp only [execOp, Act.eval, h11]
      go_simp
      try exact ⟨Turned.refl _ _, rfl⟩
    case s4 =>
      refine fun hs hle => stepG_free [] [4] (by kernel_rfl) rfl ?_
      intro ac W hT hI hO
      have hle : hs.length ≤ 0 := hle
      have h4 : ac.tmps.getD 4 undef = .pointer (some ⟨w.heap.size, 0, none⟩) := hO 4 (by simp)
      show Brings Try.prog (fun vv w' => Turned (fun _ => False) W w' ∧ vv = .agg #[.int .i64 x.kind, .int .i64 x.n, .string x.name, .slice x.at_.1 x.args.length x.at_.2]) _
      obtain ⟨c0, c1, c2, c3, _⟩ := cells4 (HBX.out W (WkS.early hs W (by omega) hT)).1
      simp only [execOp, Act.eval, h4]
      go_simp
      try exact ⟨Turned.refl _ _, rfl⟩
    case s5 =>
      refine fun hs hlen => stepG_free [12, 13] [] (by kernel_rfl) rfl ?_
      intro ac W hT hI hO
      have h12 : ac.tmps.getD 12 undef = .pointer (some ⟨bb, 0, none⟩) := hI 12 (by simp)
      have h13 : ac.tmps.getD 13 undef = .agg #[.int .i64 x.kind, .int .i64 x.n, .string x.name, .slice x.at_.1 x.args.length x.at_.2] := hI 13 (by simp)
      obtain rfl : hs = [] := List.eq_nil_of_length_eq_zero hlen
      replace hT : Turned (fun _ => False) w2 W := hT
      show Brings Try.prog (fun vv w' => WkS p X0 Y0 w.heap.size w2 [vv] w') _
      simp only [execOp, Act.eval, h12, h13]
      go_simp
      show Calls Try.prog 90 _ W _
      (with_reducible refine (HWX.out W hT).mono ?_)
      rintro e w' ⟨X, rfl, g1, g2, T'⟩
      exact ⟨_, rfl, hT.trans T', X, by rw [LT.val_eq], g1, g2⟩
    case s6 =>
      refine fun hs hle => stepG_free [] [0] (by kernel_rfl) rfl ?_
      intro ac W hT hI hO
      have hle : hs.length ≤ 1 := hle
      have h0 : ac.tmps.getD 0 undef = .pointer (some ⟨K, 0, none⟩) := hO 0 (by simp)
      show Brings Try.prog (fun vv w' => Turned (fun _ => False) W w' ∧ vv = .pointer (some ⟨K, 0, none⟩)) _
      simp only [execOp, Act.eval, h0]
      go_simp
      try exact ⟨Turned.refl _ _, rfl⟩
    case s7 =>
      refine fun hs hle => stepG_free [15] [] (by kernel_rfl) rfl ?_
      intro ac W hT hI hO
      have hle : hs.length ≤ 1 := hle
      have h15 : ac.tmps.getD 15 undef = .pointer (some ⟨K, 0, none⟩) := hI 15 (by simp)
      show Brings Try.prog (fun vv w' => Turned (fun _ => False) W w' ∧ vv = .pointer (some ⟨K, 0, none⟩)) _
      obtain ⟨k0, k1, k2, kf1, kf2⟩ := (HKC.out W (WkS.turned hs W hT)).kcells
      simp only [execOp, Act.eval, h15]
      go_simp
      try exact ⟨Turned.refl _ _, rfl⟩
    case s8 =>
      refine fun hs hle => stepG_free [16] [] (by kernel_rfl) rfl ?_
      intro ac W hT hI hO
      have hle : hs.length ≤ 1 := hle
      have h16 : ac.tmps.getD 16 undef = .pointer (some ⟨K, 0, none⟩) := hI 16 (by simp)
      show Brings Try.prog (fun vv w' => Turned (fun _ => False) W w' ∧ vv = .pointer (some ⟨K, 0, none⟩)) _
      simp only [execOp, Act.eval, h16]
      go_simp
      try exact ⟨Turned.refl _ _, rfl⟩
    case s9 =>
      refine fun hs hle => stepG_free [17] [] (by kernel_rfl) rfl ?_
      intro ac W hT hI hO
      have hle : hs.length ≤ 1 := hle
      have h17 : ac.tmps.getD 17 undef = .pointer (some ⟨K, 0, none⟩) := hI 17 (by simp)
      show Brings Try.prog (fun vv w' => Turned (fun _ => False) W w' ∧ vv = .pointer (some ⟨bb, 0, none⟩)) _
      obtain ⟨k0, k1, k2, kf1, kf2⟩ := (HKC.out W (WkS.turned hs W hT)).kcells
      simp only [execOp, Act.eval, h17]
      go_simp
      try exact ⟨Turned.refl _ _, rfl⟩
    case s10 =>
      refine fun hs hle => stepG_free [] [5] (by kernel_rfl) rfl ?_
      intro ac W hT hI hO
      have hle : hs.length ≤ 1 := hle
      have h5 : ac.tmps.getD 5 undef = .pointer (some ⟨w.heap.size + 1, 0, none⟩) := hO 5 (by simp)
      show Brings Try.prog (fun vv w' => Turned (fun _ => False) W w' ∧ vv = .agg #[.int .i64 y.kind, .int .i64 y.n, .string y.name, .slice y.at_.1 y.args.length y.at_.2]) _
      obtain ⟨c0, c1, c2, c3, _⟩ := cells4 (HBX.out W (WkS.early hs W (by omega) hT)).2
      simp only [execOp, Act.eval, h5]
      go_simp
      try exact ⟨Turned.refl _ _, rfl⟩
    case s11 =>
      refine fun hs hlen => stepG_free [18, 19] [] (by kernel_rfl) rfl ?_
      intro ac W hT hI hO
      have h18 : ac.tmps.getD 18 undef = .pointer (some ⟨bb, 0, none⟩) := hI 18 (by simp)
      have h19 : ac.tmps.getD 19 undef = .agg #[.int .i64 y.kind, .int .i64 y.n, .string y.name, .slice y.at_.1 y.args.length y.at_.2] := hI 19 (by simp)
      obtain ⟨a, rfl⟩ := List.length_eq_one_iff.1 hlen
      obtain ⟨hT1, X, x1, x2, x3⟩ := hT
      show Brings Try.prog (fun vv w' => WkS p X0 Y0 w.heap.size w2 [a, vv] w') _
      simp only [execOp, Act.eval, h18, h19]
      go_simp
      show Calls Try.prog 90 _ W _
      (with_reducible refine (HWY.out W hT1).mono ?_)
      rintro e w' ⟨Y, rfl, g1, g2, T'⟩
      exact ⟨_, rfl, hT1.trans T', ⟨X, by first | rfl | exact x1, x2.turned0 T', x3⟩, Y, by rw [LT.val_eq], g1, g2⟩
    case s12 =>
      refine fun hs hlen => stepG_free [14] [4] (by kernel_rfl) rfl ?_
      intro ac W hT hI hO
      have h14 : hs[0]? = some (ac.tmps.getD 14 undef) := hI 14 (by simp)
      have h4 : ac.tmps.getD 4 undef = .pointer (some ⟨w.heap.size, 0, none⟩) := hO 4 (by simp)
      obtain ⟨a, b, rfl⟩ := list2' hlen
      have e14 : a = ac.tmps.getD 14 undef := by simpa using h14
      have hbW := (HBX.out W hT.1).1
      obtain ⟨c0, c1, c2, c3, f0, f1, f2, f3⟩ := cells4 hbW
      obtain ⟨X, x1, x2, x3⟩ := hT.2.1
      have HST := Lib.hid (fun q => WkS.store1 (q := q) hT x1 x2 x3 ⟨_, _, _, _, hbW⟩ HPN.out.1)
      show Brings Try.prog (fun vv w' => WkS p X0 Y0 w.heap.size w2 [a, b, vv] w') _
      rw [e14] at x1
      simp only [execOp, Act.eval, h4, x1]
      clear hbW hT x2 x3 e14 x1
      go_simp
      exact HST.out undef
    case s13 =>
      refine fun hs hlen => stepG_free [20] [5] (by kernel_rfl) rfl ?_
      intro ac W hT hI hO
      have h20 : hs[1]? = some (ac.tmps.getD 20 undef) := hI 20 (by simp)
      have h5 : ac.tmps.getD 5 undef = .pointer (some ⟨w.heap.size + 1, 0, none⟩) := hO 5 (by simp)
      obtain ⟨a, b, cc, rfl⟩ := list3' hlen
      have e20 : b = ac.tmps.getD 20 undef := by simpa using h20
      have hbW : W.heap[w.heap.size + 1]? = some (.cells #[.int .i64 y.kind, .int .i64 y.n, .string y.name, .slice y.at_.1 y.args.length y.at_.2] 27 (0, 0)) := (hT.1.block _ (by have := HS2.out; omega) (by omega)).trans (HBX.out w2 (Turned.refl _ _)).2
      obtain ⟨c0, c1, c2, c3, f0, f1, f2, f3⟩ := cells4 hbW
      obtain ⟨Y, y1, y2, y3⟩ := hT.2.2
      have HST := Lib.hid (fun q => WkS.store2 (q := q) hT y2 y3 ⟨_, _, _, _, hbW⟩ HPN.out.2)
      show Brings Try.prog (fun vv w' => WkS p X0 Y0 w.heap.size w2 [a, b, cc, vv] w') _
      rw [e20] at y1
      simp only [execOp, Act.eval, h5, y1]
      clear hbW hT y2 y3 e20 y1
      go_simp
      exact HST.out undef
  case hQ =>
    intro hs vs w3 hlen hR hV
    simp only [List.foldl_cons, List.foldl_nil, List.setIfInBounds_toArray, List.set_cons_zero, List.set_cons_succ]
    obtain ⟨e1, e2, e3, e4, rfl⟩ := list4' hlen
    obtain ⟨T3, ⟨X, hbx, hxi, rfl⟩, Y, hby, hyi, rfl⟩ := hR
    have HT3 := Lib.hid (HT2.out.step T3 (fun i hi e => by omega))
    have HK3 := Lib.hid (HKC.out w3 T3)
    have HXB := Lib.hid hbx
    have HYB := Lib.hid hby
    have HXI := Lib.hid hxi
    have HYI := Lib.hid hyi
    obtain ⟨c0, c1, c2, c3, f0, f1, f2, f3⟩ := cells4 hbx
    obtain ⟨d0, d1, d2, d3, g0, g1, g2, g3⟩ := cells4 hby
    clear T3 hbx hby hxi hyi hlen hV
    obtain ⟨k0, k1, k2, kf1, kf2⟩ := HK3.out.kcells
    have hok := HK3.out.bo.ok
    have hm65 := HK3.out.bo.most
    by_cases hxk : X.kind = 0
    · have vX := Tm.ownB_var OWX.out (by rw [Tm.bare_kind]; exact hxk)
      have fX := WDX.out.free (by rw [Tm.bare_kind]; exact hxk)
      rw [Tm.bare_n] at vX fX
      have bx : (X.kind == 0) = true := by simp [hxk]
      by_cases hyk : Y.kind = 0
      · have vY := Tm.ownB_var OWY.out (by rw [Tm.bare_kind]; exact hyk)
        have fY := WDY.out.free (by rw [Tm.bare_kind]; exact hyk)
        rw [Tm.bare_n] at vY fY
        have by_ : (Y.kind == 0) = true := by simp [hyk]
        by_cases hn : X.n = Y.n
        · have bn : (X.n == Y.n) = true := by simp [hn]
          have HE := Lib.hid (HU.out.trans (oneU_same hxk hyk hn))
          clear hxk hyk hn vX vY fX fY hok
          go_wp2_with fail
          go_ret2
          rw [HE.out]
          refine ⟨v, rfl, rfl, ?_⟩
          rw [show (2000 - ((2000 - c : Nat) : Int)) = (c : Int) from by omega]
          exact UA.same HK3.out (HT3.out.mono (fun _ _ f => f.elim))
        · have bn : (X.n == Y.n) = false := by simp [hn]
          have HE := Lib.hid (HU.out.trans (oneU_vars hxk hyk hn))
          by_cases hlt : X.n < Y.n
          · rw [Int.max_eq_right (by omega), Int.min_eq_left (by omega)] at HE
            have HSE := Lib.hid (setE_vars hok hm65 vY.1 vY.2.1 vX.1 vX.2.1 fY fX (fun e => hn e.symm))
            have hnlt : ¬ Y.n < X.n := by omega
            have hb0 : 0 ≤ X.n ∧ X.n < 65536 ∧ 0 ≤ Y.n ∧ Y.n < 65536 := by omega
            clear hxk hyk hn vX vY fX fY hok
            go_wp2_with fail
            refine wp_region_hsW [35, 36, 37, 38, 39, 40, 41, 42, 43, 44, 45, 46, 47, 48, 49, 50, 6, 7] [14, 15] [1, 1, 1, 1, 1, 1, 1, 1, 1, 0, 0, 0, 0, 0, 1, 2, 2, 2] [49, 50] (fun dd vv => (match dd with | 35 => vv = .pointer (some ⟨K, 0, none⟩) | 36 => vv = .pointer (some ⟨K, 0, none⟩) | 37 => vv = .pointer (some ⟨K, 0, none⟩) | 38 => vv = .pointer (some ⟨bb, 0, none⟩) | 39 => vv = .pointer (some ⟨w.heap.size, 1, none⟩) | 40 => vv = .int .i64 X.n | 41 => vv = .pointer (some ⟨w.heap.size + 1, 1, none⟩) | 42 => vv = .int .i64 Y.n | 43 => vv = .int .i64 Y.n | 44 => vv = .pointer (some ⟨w.heap.size, 1, none⟩) | 45 => vv = .int .i64 X.n | 46 => vv = .pointer (some ⟨w.heap.size + 1, 1, none⟩) | 47 => vv = .int .i64 Y.n | 48 => vv = .int .i64 X.n | 6 => vv = .bool true | 7 => vv = .int .i64 0 | _ => True : Prop)) (VarS p bb O m l Y.n X.n w3) (by kernel_rfl) rfl (by kernel_rfl) (by kernel_rfl) (by kernel_rfl) (by kernel_rfl) (fun w h => h) (fun hs w w' h T => VarS.turned0 hs w w' h T) ?hs ?hQ
            case hs =>
              refine ⟨?s0, ?s1, ?s2, ?s3, ?s4, ?s5, ?s6, ?s7, ?s8, ?s9, ?s10, ?s11, ?s12, ?s13, ?s14, ?s15, ?s16, ?s17, trivial⟩
              case s0 =>
                refine fun hs hle => stepG_free [] [0] (by kernel_rfl) rfl ?_
                intro ac W hT hI hO
                have hle : hs.length ≤ 1 := hle
                have h0 : ac.tmps.getD 0 undef = .pointer (some ⟨K, 0, none⟩) := hO 0 (by simp)
                show Brings Try.prog (fun vv w' => Turned (fun _ => False) W w' ∧ vv = .pointer (some ⟨K, 0, none⟩)) _
                simp only [execOp, Act.eval, h0]
                go_simp
                try exact ⟨Turned.refl _ _, rfl⟩
              case s1 =>
                refine fun hs hle => stepG_free [35] [] (by kernel_rfl) rfl ?_
                intro ac W hT hI hO
                have hle : hs.length ≤ 1 := hle
                have h35 : ac.tmps.getD 35 undef = .pointer (some ⟨K, 0, none⟩) := hI 35 (by simp)
                show Brings Try.prog (fun vv w' => Turned (fun _ => False) W w' ∧ vv = .pointer (some ⟨K, 0, none⟩)) _
                obtain ⟨k0, k1, k2, kf1, kf2⟩ := (HK3.out.turned0 (VarS.turned hs W hle hT)).kcells
                simp only [execOp, Act.eval, h35]
                go_simp
                try exact ⟨Turned.refl _ _, rfl⟩
              case s2 =>
                refine fun hs hle => stepG_free [36] [] (by kernel_rfl) rfl ?_
                intro ac W hT hI hO
                have hle : hs.length ≤ 1 := hle
                have h36 : ac.tmps.getD 36 undef = .pointer (some ⟨K, 0, none⟩) := hI 36 (by simp)
                show Brings Try.prog (fun vv w' => Turned (fun _ => False) W w' ∧ vv = .pointer (some ⟨K, 0, none⟩)) _
                simp only [execOp, Act.eval, h36]
                go_simp
                try exact ⟨Turned.refl _ _, rfl⟩
              case s3 =>
                refine fun hs hle => stepG_free [37] [] (by kernel_rfl) rfl ?_
                intro ac W hT hI hO
                have hle : hs.length ≤ 1 := hle
                have h37 : ac.tmps.getD 37 undef = .pointer (some ⟨K, 0, none⟩) := hI 37 (by simp)
                show Brings Try.prog (fun vv w' => Turned (fun _ => False) W w' ∧ vv = .pointer (some ⟨bb, 0, none⟩)) _
                obtain ⟨k0, k1, k2, kf1, kf2⟩ := (HK3.out.turned0 (VarS.turned hs W hle hT)).kcells
                simp only [execOp, Act.eval, h37]
                go_simp
                try exact ⟨Turned.refl _ _, rfl⟩
              case s4 =>
                refine fun hs hle => stepG_free [] [4] (by kernel_rfl) rfl ?_
                intro ac W hT hI hO
                have hle : hs.length ≤ 1 := hle
                have h4 : ac.tmps.getD 4 undef = .pointer (some ⟨w.heap.size, 0, none⟩) := hO 4 (by simp)
                show Brings Try.prog (fun vv w' => Turned (fun _ => False) W w' ∧ vv = .pointer (some ⟨w.heap.size, 1, none⟩)) _
                simp only [execOp, Act.eval, h4]
                go_simp
                try exact ⟨Turned.refl _ _, rfl⟩
              case s5 =>
                refine fun hs hle => stepG_free [39] [] (by kernel_rfl) rfl ?_
                intro ac W hT hI hO
                have hle : hs.length ≤ 1 := hle
                have h39 : ac.tmps.getD 39 undef = .pointer (some ⟨w.heap.size, 1, none⟩) := hI 39 (by simp)
                show Brings Try.prog (fun vv w' => Turned (fun _ => False) W w' ∧ vv = .int .i64 X.n) _
                obtain ⟨c0, c1, c2, c3, _⟩ := cells4 (((VarS.turned hs W (by omega) hT).block _ (Array.getElem?_eq_some_iff.1 HXB.out).1 (fun f => f)).trans HXB.out)
                simp only [execOp, Act.eval, h39]
                go_simp
                try exact ⟨Turned.refl _ _, rfl⟩
              case s6 =>
                refine fun hs hle => stepG_free [] [5] (by kernel_rfl) rfl ?_
                intro ac W hT hI hO
                have hle : hs.length ≤ 1 := hle
                have h5 : ac.tmps.getD 5 undef = .pointer (some ⟨w.heap.size + 1, 0, none⟩) := hO 5 (by simp)
                show Brings Try.prog (fun vv w' => Turned (fun _ => False) W w' ∧ vv = .pointer (some ⟨w.heap.size + 1, 1, none⟩)) _
                simp only [execOp, Act.eval, h5]
                go_simp
                try exact ⟨Turned.refl _ _, rfl⟩
              case s7 =>
                refine fun hs hle => stepG_free [41] [] (by kernel_rfl) rfl ?_
                intro ac W hT hI hO
                have hle : hs.length ≤ 1 := hle
                have h41 : ac.tmps.getD 41 undef = .pointer (some ⟨w.heap.size + 1, 1, none⟩) := hI 41 (by simp)
                show Brings Try.prog (fun vv w' => Turned (fun _ => False) W w' ∧ vv = .int .i64 Y.n) _
                obtain ⟨c0, c1, c2, c3, _⟩ := cells4 (((VarS.turned hs W (by omega) hT).block _ (Array.getElem?_eq_some_iff.1 HYB.out).1 (fun f => f)).trans HYB.out)
                simp only [execOp, Act.eval, h41]
                go_simp
                try exact ⟨Turned.refl _ _, rfl⟩
              case s8 =>
                refine fun hs hle => stepG_free [40, 42] [] (by kernel_rfl) rfl ?_
                intro ac W hT hI hO
                have hle : hs.length ≤ 1 := hle
                have h40 : ac.tmps.getD 40 undef = .int .i64 X.n := hI 40 (by simp)
                have h42 : ac.tmps.getD 42 undef = .int .i64 Y.n := hI 42 (by simp)
                show Brings Try.prog (fun vv w' => Turned (fun _ => False) W w' ∧ vv = .int .i64 Y.n) _
                simp only [execOp, Act.eval, h40, h42]
                go_simp
                try rw [if_pos (by omega)]
                try rw [if_neg (by omega)]
                try exact ⟨Turned.refl _ _, rfl⟩
              case s9 =>
                refine fun hs hle => stepG_free [] [4] (by kernel_rfl) rfl ?_
                intro ac W hT hI hO
                have hle : hs.length ≤ 0 := hle
                have h4 : ac.tmps.getD 4 undef = .pointer (some ⟨w.heap.size, 0, none⟩) := hO 4 (by simp)
                show Brings Try.prog (fun vv w' => Turned (fun _ => False) W w' ∧ vv = .pointer (some ⟨w.heap.size, 1, none⟩)) _
                simp only [execOp, Act.eval, h4]
                go_simp
                try exact ⟨Turned.refl _ _, rfl⟩
              case s10 =>
                refine fun hs hle => stepG_free [44] [] (by kernel_rfl) rfl ?_
                intro ac W hT hI hO
                have hle : hs.length ≤ 0 := hle
                have h44 : ac.tmps.getD 44 undef = .pointer (some ⟨w.heap.size, 1, none⟩) := hI 44 (by simp)
                show Brings Try.prog (fun vv w' => Turned (fun _ => False) W w' ∧ vv = .int .i64 X.n) _
                obtain ⟨c0, c1, c2, c3, _⟩ := cells4 (((VarS.turned hs W (by omega) hT).block _ (Array.getElem?_eq_some_iff.1 HXB.out).1 (fun f => f)).trans HXB.out)
                simp only [execOp, Act.eval, h44]
                go_simp
                try exact ⟨Turned.refl _ _, rfl⟩
              case s11 =>
                refine fun hs hle => stepG_free [] [5] (by kernel_rfl) rfl ?_
                intro ac W hT hI hO
                have hle : hs.length ≤ 0 := hle
                have h5 : ac.tmps.getD 5 undef = .pointer (some ⟨w.heap.size + 1, 0, none⟩) := hO 5 (by simp)
                show Brings Try.prog (fun vv w' => Turned (fun _ => False) W w' ∧ vv = .pointer (some ⟨w.heap.size + 1, 1, none⟩)) _
                simp only [execOp, Act.eval, h5]
                go_simp
                try exact ⟨Turned.refl _ _, rfl⟩
              case s12 =>
                refine fun hs hle => stepG_free [46] [] (by kernel_rfl) rfl ?_
                intro ac W hT hI hO
                have hle : hs.length ≤ 0 := hle
                have h46 : ac.tmps.getD 46 undef = .pointer (some ⟨w.heap.size + 1, 1, none⟩) := hI 46 (by simp)
                show Brings Try.prog (fun vv w' => Turned (fun _ => False) W w' ∧ vv = .int .i64 Y.n) _
                obtain ⟨c0, c1, c2, c3, _⟩ := cells4 (((VarS.turned hs W (by omega) hT).block _ (Array.getElem?_eq_some_iff.1 HYB.out).1 (fun f => f)).trans HYB.out)
                simp only [execOp, Act.eval, h46]
                go_simp
                try exact ⟨Turned.refl _ _, rfl⟩
              case s13 =>
                refine fun hs hle => stepG_free [45, 47] [] (by kernel_rfl) rfl ?_
                intro ac W hT hI hO
                have hle : hs.length ≤ 0 := hle
                have h45 : ac.tmps.getD 45 undef = .int .i64 X.n := hI 45 (by simp)
                have h47 : ac.tmps.getD 47 undef = .int .i64 Y.n := hI 47 (by simp)
                show Brings Try.prog (fun vv w' => Turned (fun _ => False) W w' ∧ vv = .int .i64 X.n) _
                simp only [execOp, Act.eval, h45, h47]
                go_simp
                try rw [if_pos (by omega)]
                try rw [if_neg (by omega)]
                try exact ⟨Turned.refl _ _, rfl⟩
              case s14 =>
                refine fun hs hlen => stepG_free [48] [] (by kernel_rfl) rfl ?_
                intro ac W hT hI hO
                have h48 : ac.tmps.getD 48 undef = .int .i64 X.n := hI 48 (by simp)
                obtain rfl : hs = [] := List.eq_nil_of_length_eq_zero hlen
                replace hT : Turned (fun _ => False) w3 W := hT
                show Brings Try.prog (fun vv w' => VarS p bb O m l Y.n X.n w3 [vv] w') _
                simp only [execOp, Act.eval, h48]
                go_simp
                show Calls Try.prog 62 _ W _
                (with_reducible refine (varE X.n (by unfold I64; omega) W).mono ?_)
                rintro e w' ⟨rfl, T'⟩
                exact ⟨_, rfl, hT.trans T', rfl⟩
              case s15 =>
                refine fun hs hlen => stepG_free [38, 43, 49] [] (by kernel_rfl) rfl ?_
                intro ac W hT hI hO
                have h38 : ac.tmps.getD 38 undef = .pointer (some ⟨bb, 0, none⟩) := hI 38 (by simp)
                have h43 : ac.tmps.getD 43 undef = .int .i64 Y.n := hI 43 (by simp)
                have h49 : hs[0]? = some (ac.tmps.getD 49 undef) := hI 49 (by simp)
                obtain ⟨a, rfl⟩ := List.length_eq_one_iff.1 hlen
                obtain ⟨hT1, ha⟩ := hT
                have e49 : a = ac.tmps.getD 49 undef := by simpa using h49
                rw [e49] at ha
                show Brings Try.prog (fun vv w' => VarS p bb O m l Y.n X.n w3 [a, vv] w') _
                have HS88 := Lib.hid (setVar (HK3.out.bo.turned0 hT1) (n := Y.n) (k := X.n) (by unfold I64; omega) (by unfold I64; omega) HSE.out)
                simp only [execOp, Act.eval, h38, h43, ha]
                go_simp
                show Calls Try.prog 88 _ W _
                (with_reducible refine HS88.out.mono ?_)
                rintro e w' ⟨rfl, l2, hl2, A⟩
                exact ⟨_, rfl, rfl, l2, hl2, A.from0 hT1⟩
              case s16 =>
                refine fun hs hle => stepG_free [] [] (by kernel_rfl) rfl ?_
                intro ac W hT hI hO
                have hle : hs.length ≤ 2 := hle
                show Brings Try.prog (fun vv w' => Turned (fun _ => False) W w' ∧ vv = .bool true) _
                simp only [execOp, Act.eval]
                go_simp
                try exact ⟨Turned.refl _ _, rfl⟩
              case s17 =>
                refine fun hs hle => stepG_free [50] [] (by kernel_rfl) rfl ?_
                intro ac W hT hI hO
                have hle : hs.length ≤ 2 := hle
                have h50 : hs[1]? = some (ac.tmps.getD 50 undef) := hI 50 (by simp)
                show Brings Try.prog (fun vv w' => Turned (fun _ => False) W w' ∧ vv = .int .i64 0) _
                have e50 := VarS.val hs W hT h50
                simp only [execOp, Act.eval, e50]
                go_simp
                try exact ⟨Turned.refl _ _, rfl⟩
            case hQ =>
              intro hs5 vs5 w5 hlen hR hV
              have q6 : vs5 6 = .bool true := hV 6 (by simp)
              have q7 : vs5 7 = .int .i64 0 := hV 7 (by simp)
              simp only [List.foldl_cons, List.foldl_nil, List.setIfInBounds_toArray, List.set_cons_zero, List.set_cons_succ, q6, q7]
              obtain ⟨e1, e2, rfl⟩ := list2' hlen
              obtain ⟨_, l2, hl2, A5⟩ := hR
              have HA5 := Lib.hid A5
              have HL2 := Lib.hid hl2
              clear A5 hl2 hlen hV q6 q7
              go_wp2_with fail
              go_ret2
              rw [HE.out]
              refine ⟨v, rfl, rfl, ?_⟩
              rw [show (2000 - ((2000 - c : Nat) : Int)) = (c : Int) from by omega]
              obtain ⟨O', u1, u2, u3⟩ := HK3.out.after HA5.out
              exact UA.from HT3.out ⟨l2, O', HL2.out, u1, u2, u3.mono (fun _ _ e => .inr (.inr e))⟩
          · rw [Int.max_eq_left (by omega), Int.min_eq_right (by omega)] at HE
            have HSE := Lib.hid (setE_vars hok hm65 vX.1 vX.2.1 vY.1 vY.2.1 fX fY hn)
            have hgt : Y.n < X.n := by omega
            have hb0 : 0 ≤ X.n ∧ X.n < 65536 ∧ 0 ≤ Y.n ∧ Y.n < 65536 := by omega
            clear hxk hyk hn vX vY fX fY hok
            go_wp2_with fail
            refine wp_region_hsW [35, 36, 37, 38, 39, 40, 41, 42, 43, 44, 45, 46, 47, 48, 49, 50, 6, 7] [14, 15] [1, 1, 1, 1, 1, 1, 1, 1, 1, 0, 0, 0, 0, 0, 1, 2, 2, 2] [49, 50] (fun dd vv => (match dd with | 35 => vv = .pointer (some ⟨K, 0, none⟩) | 36 => vv = .pointer (some ⟨K, 0, none⟩) | 37 => vv = .pointer (some ⟨K, 0, none⟩) | 38 => vv = .pointer (some ⟨bb, 0, none⟩) | 39 => vv = .pointer (some ⟨w.heap.size, 1, none⟩) | 40 => vv = .int .i64 X.n | 41 => vv = .pointer (some ⟨w.heap.size + 1, 1, none⟩) | 42 => vv = .int .i64 Y.n | 43 => vv = .int .i64 X.n | 44 => vv = .pointer (some ⟨w.heap.size, 1, none⟩) | 45 => vv = .int .i64 X.n | 46 => vv = .pointer (some ⟨w.heap.size + 1, 1, none⟩) | 47 => vv = .int .i64 Y.n | 48 => vv = .int .i64 Y.n | 6 => vv = .bool true | 7 => vv = .int .i64 0 | _ => True : Prop)) (VarS p bb O m l X.n Y.n w3) (by kernel_rfl) rfl (by kernel_rfl) (by kernel_rfl) (by kernel_rfl) (by kernel_rfl) (fun w h => h) (fun hs w w' h T => VarS.turned0 hs w w' h T) ?hs ?hQ
            case hs =>
              refine ⟨?s0, ?s1, ?s2, ?s3, ?s4, ?s5, ?s6, ?s7, ?s8, ?s9, ?s10, ?s11, ?s12, ?s13, ?s14, ?s15, ?s16, ?s17, trivial⟩
              case s0 =>
                refine fun hs hle => stepG_free [] [0] (by kernel_rfl) rfl ?_
                intro ac W hT hI hO
                have hle : hs.length ≤ 1 := hle
                have h0 : ac.tmps.getD 0 undef = .pointer (some ⟨K, 0, none⟩) := hO 0 (by simp)
                show Brings Try.prog (fun vv w' => Turned (fun _ => False) W w' ∧ vv = .pointer (some ⟨K, 0, none⟩)) _
                simp only [execOp, Act.eval, h0]
                go_simp
                try exact ⟨Turned.refl _ _, rfl⟩
              case s1 =>
                refine fun hs hle => stepG_free [35] [] (by kernel_rfl) rfl ?_
                intro ac W hT hI hO
                have hle : hs.length ≤ 1 := hle
                have h35 : ac.tmps.getD 35 undef = .pointer (some ⟨K, 0, none⟩) := hI 35 (by simp)
                show Brings Try.prog (fun vv w' => Turned (fun _ => False) W w' ∧ vv = .pointer (some ⟨K, 0, none⟩)) _
                obtain ⟨k0, k1, k2, kf1, kf2⟩ := (HK3.out.turned0 (VarS.turned hs W hle hT)).kcells
                simp only [execOp, Act.eval, h35]
                go_simp
                try exact ⟨Turned.refl _ _, rfl⟩
              case s2 =>
                refine fun hs hle => stepG_free [36] [] (by kernel_rfl) rfl ?_
                intro ac W hT hI hO
                have hle : hs.length ≤ 1 := hle
                have h36 : ac.tmps.getD 36 undef = .pointer (some ⟨K, 0, none⟩) := hI 36 (by simp)
                show Brings Try.prog (fun vv w' => Turned (fun _ => False) W w' ∧ vv = .pointer (some ⟨K, 0, none⟩)) _
                simp only [execOp, Act.eval, h36]
                go_simp
                try exact ⟨Turned.refl _ _, rfl⟩
              case s3 =>
                refine fun hs hle => stepG_free [37] [] (by kernel_rfl) rfl ?_
                intro ac W hT hI hO
                have hle : hs.length ≤ 1 := hle
                have h37 : ac.tmps.getD 37 undef = .pointer (some ⟨K, 0, none⟩) := hI 37 (by simp)
                show Brings Try.prog (fun vv w' => Turned (fun _ => False) W w' ∧ vv = .pointer (some ⟨bb, 0, none⟩)) _
                obtain ⟨k0, k1, k2, kf1, kf2⟩ := (HK3.out.turned0 (VarS.turned hs W hle hT)).kcells
                simp only [execOp, Act.eval, h37]
                go_simp
                try exact ⟨Turned.refl _ _, rfl⟩
              case s4 =>
                refine fun hs hle => stepG_free [] [4] (by kernel_rfl) rfl ?_
                intro ac W hT hI hO
                have hle : hs.length ≤ 1 := hle
                have h4 : ac.tmps.getD 4 undef = .pointer (some ⟨w.heap.size, 0, none⟩) := hO 4 (by simp)
                show Brings Try.prog (fun vv w' => Turned (fun _ => False) W w' ∧ vv = .pointer (some ⟨w.heap.size, 1, none⟩)) _
                simp only [execOp, Act.eval, h4]
                go_simp
                try exact ⟨Turned.refl _ _, rfl⟩
              case s5 =>
                refine fun hs hle => stepG_free [39] [] (by kernel_rfl) rfl ?_
                intro ac W hT hI hO
                have hle : hs.length ≤ 1 := hle
                have h39 : ac.tmps.getD 39 undef = .pointer (some ⟨w.heap.size, 1, none⟩) := hI 39 (by simp)
                show Brings Try.prog (fun vv w' => Turned (fun _ => False) W w' ∧ vv = .int .i64 X.n) _
                obtain ⟨c0, c1, c2, c3, _⟩ := cells4 (((VarS.turned hs W (by omega) hT).block _ (Array.getElem?_eq_some_iff.1 HXB.out).1 (fun f => f)).trans HXB.out)
                simp only [execOp, Act.eval, h39]
                go_simp
                try exact ⟨Turned.refl _ _, rfl⟩
              case s6 =>
                refine fun hs hle => stepG_free [] [5] (by kernel_rfl) rfl ?_
                intro ac W hT hI hO
                have hle : hs.length ≤ 1 := hle
                have h5 : ac.tmps.getD 5 undef = .pointer (some ⟨w.heap.size + 1, 0, none⟩) := hO 5 (by simp)
                show Brings Try.prog (fun vv w' => Turned (fun _ => False) W w' ∧ vv = .pointer (some ⟨w.heap.size + 1, 1, none⟩)) _
                simp only [execOp, Act.eval, h5]
                go_simp
                try exact ⟨Turned.refl _ _, rfl⟩
              case s7 =>
                refine fun hs hle => stepG_free [41] [] (by kernel_rfl) rfl ?_
                intro ac W hT hI hO
                have hle : hs.length ≤ 1 := hle
                have h41 : ac.tmps.getD 41 undef = .pointer (some ⟨w.heap.size + 1, 1, none⟩) := hI 41 (by simp)
                show Brings Try.prog (fun vv w' => Turned (fun _ => False) W w' ∧ vv = .int .i64 Y.n) _
                obtain ⟨c0, c1, c2, c3, _⟩ := cells4 (((VarS.turned hs W (by omega) hT).block _ (Array.getElem?_eq_some_iff.1 HYB.out).1 (fun f => f)).trans HYB.out)
                simp only [execOp, Act.eval, h41]
                go_simp
                try exact ⟨Turned.refl _ _, rfl⟩
              case s8 =>
                refine fun hs hle => stepG_free [40, 42] [] (by kernel_rfl) rfl ?_
                intro ac W hT hI hO
                have hle : hs.length ≤ 1 := hle
                have h40 : ac.tmps.getD 40 undef = .int .i64 X.n := hI 40 (by simp)
                have h42 : ac.tmps.getD 42 undef = .int .i64 Y.n := hI 42 (by simp)
                show Brings Try.prog (fun vv w' => Turned (fun _ => False) W w' ∧ vv = .int .i64 X.n) _
                simp only [execOp, Act.eval, h40, h42]
                go_simp
                try rw [if_pos (by omega)]
                try rw [if_neg (by omega)]
                try exact ⟨Turned.refl _ _, rfl⟩
              case s9 =>
                refine fun hs hle => stepG_free [] [4] (by kernel_rfl) rfl ?_
                intro ac W hT hI hO
                have hle : hs.length ≤ 0 := hle
                have h4 : ac.tmps.getD 4 undef = .pointer (some ⟨w.heap.size, 0, none⟩) := hO 4 (by simp)
                show Brings Try.prog (fun vv w' => Turned (fun _ => False) W w' ∧ vv = .pointer (some ⟨w.heap.size, 1, none⟩)) _
                simp only [execOp, Act.eval, h4]
                go_simp
                try exact ⟨Turned.refl _ _, rfl⟩
              case s10 =>
                refine fun hs hle => stepG_free [44] [] (by kernel_rfl) rfl ?_
                intro ac W hT hI hO
                have hle : hs.length ≤ 0 := hle
                have h44 : ac.tmps.getD 44 undef = .pointer (some ⟨w.heap.size, 1, none⟩) := hI 44 (by simp)
                show Brings Try.prog (fun vv w' => Turned (fun _ => False) W w' ∧ vv = .int .i64 X.n) _
                obtain ⟨c0, c1, c2, c3, _⟩ := cells4 (((VarS.turned hs W (by omega) hT).block _ (Array.getElem?_eq_some_iff.1 HXB.out).1 (fun f => f)).trans HXB.out)
                simp only [execOp, Act.eval, h44]
                go_simp
                try exact ⟨Turned.refl _ _, rfl⟩
              case s11 =>
                refine fun hs hle => stepG_free [] [5] (by kernel_rfl) rfl ?_
                intro ac W hT hI hO
                have hle : hs.length ≤ 0 := hle
                have h5 : ac.tmps.getD 5 undef = .pointer (some ⟨w.heap.size + 1, 0, none⟩) := hO 5 (by simp)
                show Brings Try.prog (fun vv w' => Turned (fun _ => False) W w' ∧ vv = .pointer (some ⟨w.heap.size + 1, 1, none⟩)) _
                simp only [execOp, Act.eval, h5]
                go_simp
                try exact ⟨Turned.refl _ _, rfl⟩
              case s12 =>
                refine fun hs hle => stepG_free [46] [] (by kernel_rfl) rfl ?_
                intro ac W hT hI hO
                have hle : hs.length ≤ 0 := hle
                have h46 : ac.tmps.getD 46 undef = .pointer (some ⟨w.heap.size + 1, 1, none⟩) := hI 46 (by simp)
                show Brings Try.prog (fun vv w' => Turned (fun _ => False) W w' ∧ vv = .int .i64 Y.n) _
                obtain ⟨c0, c1, c2, c3, _⟩ := cells4 (((VarS.turned hs W (by omega) hT).block _ (Array.getElem?_eq_some_iff.1 HYB.out).1 (fun f => f)).trans HYB.out)
                simp only [execOp, Act.eval, h46]
                go_simp
                try exact ⟨Turned.refl _ _, rfl⟩
              case s13 =>
                refine fun hs hle => stepG_free [45, 47] [] (by kernel_rfl) rfl ?_
                intro ac W hT hI hO
                have hle : hs.length ≤ 0 := hle
                have h45 : ac.tmps.getD 45 undef = .int .i64 X.n := hI 45 (by simp)
                have h47 : ac.tmps.getD 47 undef = .int .i64 Y.n := hI 47 (by simp)
                show Brings Try.prog (fun vv w' => Turned (fun _ => False) W w' ∧ vv = .int .i64 Y.n) _
                simp only [execOp, Act.eval, h45, h47]
                go_simp
                try rw [if_pos (by omega)]
                try rw [if_neg (by omega)]
                try exact ⟨Turned.refl _ _, rfl⟩
              case s14 =>
                refine fun hs hlen => stepG_free [48] [] (by kernel_rfl) rfl ?_
                intro ac W hT hI hO
                have h48 : ac.tmps.getD 48 undef = .int .i64 Y.n := hI 48 (by simp)
                obtain rfl : hs = [] := List.eq_nil_of_length_eq_zero hlen
                replace hT : Turned (fun _ => False) w3 W := hT
                show Brings Try.prog (fun vv w' => VarS p bb O m l X.n Y.n w3 [vv] w') _
                simp only [execOp, Act.eval, h48]
                go_simp
                show Calls Try.prog 62 _ W _
                (with_reducible refine (varE Y.n (by unfold I64; omega) W).mono ?_)
                rintro e w' ⟨rfl, T'⟩
                exact ⟨_, rfl, hT.trans T', rfl⟩
              case s15 =>
                refine fun hs hlen => stepG_free [38, 43, 49] [] (by kernel_rfl) rfl ?_
                intro ac W hT hI hO
                have h38 : ac.tmps.getD 38 undef = .pointer (some ⟨bb, 0, none⟩) := hI 38 (by simp)
                have h43 : ac.tmps.getD 43 undef = .int .i64 X.n := hI 43 (by simp)
                have h49 : hs[0]? = some (ac.tmps.getD 49 undef) := hI 49 (by simp)
                obtain ⟨a, rfl⟩ := List.length_eq_one_iff.1 hlen
                obtain ⟨hT1, ha⟩ := hT
                have e49 : a = ac.tmps.getD 49 undef := by simpa using h49
                rw [e49] at ha
                show Brings Try.prog (fun vv w' => VarS p bb O m l X.n Y.n w3 [a, vv] w') _
                have HS88 := Lib.hid (setVar (HK3.out.bo.turned0 hT1) (n := X.n) (k := Y.n) (by unfold I64; omega) (by unfold I64; omega) HSE.out)
                simp only [execOp, Act.eval, h38, h43, ha]
                go_simp
                show Calls Try.prog 88 _ W _
                (with_reducible refine HS88.out.mono ?_)
                rintro e w' ⟨rfl, l2, hl2, A⟩
                exact ⟨_, rfl, rfl, l2, hl2, A.from0 hT1⟩
              case s16 =>
                refine fun hs hle => stepG_free [] [] (by kernel_rfl) rfl ?_
                intro ac W hT hI hO
                have hle : hs.length ≤ 2 := hle
                show Brings Try.prog (fun vv w' => Turned (fun _ => False) W w' ∧ vv = .bool true) _
                simp only [execOp, Act.eval]
                go_simp
                try exact ⟨Turned.refl _ _, rfl⟩
              case s17 =>
                refine fun hs hle => stepG_free [50] [] (by kernel_rfl) rfl ?_
                intro ac W hT hI hO
                have hle : hs.length ≤ 2 := hle
                have h50 : hs[1]? = some (ac.tmps.getD 50 undef) := hI 50 (by simp)
                show Brings Try.prog (fun vv w' => Turned (fun _ => False) W w' ∧ vv = .int .i64 0) _
                have e50 := VarS.val hs W hT h50
                simp only [execOp, Act.eval, e50]
                go_simp
                try exact ⟨Turned.refl _ _, rfl⟩
            case hQ =>
              intro hs5 vs5 w5 hlen hR hV
              have q6 : vs5 6 = .bool true := hV 6 (by simp)
              have q7 : vs5 7 = .int .i64 0 := hV 7 (by simp)
              simp only [List.foldl_cons, List.foldl_nil, List.setIfInBounds_toArray, List.set_cons_zero, List.set_cons_succ, q6, q7]
              obtain ⟨e1, e2, rfl⟩ := list2' hlen
              obtain ⟨_, l2, hl2, A5⟩ := hR
              have HA5 := Lib.hid A5
              have HL2 := Lib.hid hl2
              clear A5 hl2 hlen hV q6 q7
              go_wp2_with fail
              go_ret2
              rw [HE.out]
              refine ⟨v, rfl, rfl, ?_⟩
              rw [show (2000 - ((2000 - c : Nat) : Int)) = (c : Int) from by omega]
              obtain ⟨O', u1, u2, u3⟩ := HK3.out.after HA5.out
              exact UA.from HT3.out ⟨l2, O', HL2.out, u1, u2, u3.mono (fun _ _ e => .inr (.inr e))⟩
      · have by_ : (Y.kind == 0) = false := by simp [hyk]
        have HE := Lib.hid (HU.out.trans (oneU_left hxk hyk))
        have HTI := Lib.hid (tie183 (xv := X) HK3.out hc HYI.out OWY.out hyk vX.1 vX.2.1 fX)
        clear hxk hyk vX fX hok
        rw [LT.val_eq, LT.val_eq] at HTI
        obtain ⟨TU, hTU⟩ : ∃ z, z = Tm.tieU (bt l) (2000 - c) X.n Y.bare := ⟨_, rfl⟩
        rw [← hTU] at HTI HE
        clear hTU
        cases TU with
        | ok l' left' =>
          go_wp2_with (go_at_call 183; (with_reducible refine HTI.out.mono ?_); rintro e w4 ⟨rfl, h4⟩; have H4 := Lib.hid h4; clear h4)
          go_ret2
          rw [HE.out]
          exact ⟨v, rfl, rfl, H4.out.from HT3.out⟩
        | no q =>
          go_wp2_with (go_at_call 183; (with_reducible refine HTI.out.mono ?_); rintro e w4 ⟨rfl, h4⟩; have H4 := Lib.hid h4; clear h4)
          go_ret2
          rw [HE.out]
          exact ⟨v, rfl, rfl, H4.out.from HT3.out⟩
        | over =>
          go_wp2_with (go_at_call 183; (with_reducible refine HTI.out.mono ?_); rintro e w4 ⟨rfl, h4⟩; have H4 := Lib.hid h4; clear h4)
          go_ret2
          rw [HE.out]
          obtain ⟨c', h4⟩ := H4.out
          exact ⟨v, rfl, rfl, c', h4.from HT3.out⟩
    · have bx : (X.kind == 0) = false := by simp [hxk]
      by_cases hyk : Y.kind = 0
      · have vY := Tm.ownB_var OWY.out (by rw [Tm.bare_kind]; exact hyk)
        have fY := WDY.out.free (by rw [Tm.bare_kind]; exact hyk)
        rw [Tm.bare_n] at vY fY
        have by_ : (Y.kind == 0) = true := by simp [hyk]
        have HE := Lib.hid (HU.out.trans (oneU_right hxk hyk))
        have HTI := Lib.hid (tie183 (xv := Y) HK3.out hc HXI.out OWX.out hxk vY.1 vY.2.1 fY)
        clear hxk hyk vY fY hok
        rw [LT.val_eq, LT.val_eq] at HTI
        obtain ⟨TU, hTU⟩ : ∃ z, z = Tm.tieU (bt l) (2000 - c) Y.n X.bare := ⟨_, rfl⟩
        rw [← hTU] at HTI HE
        clear hTU
        cases TU with
        | ok l' left' =>
          go_wp2_with (go_at_call 183; (with_reducible refine HTI.out.mono ?_); rintro e w4 ⟨rfl, h4⟩; have H4 := Lib.hid h4; clear h4)
          go_ret2
          rw [HE.out]
          exact ⟨v, rfl, rfl, H4.out.from HT3.out⟩
        | no q =>
          go_wp2_with (go_at_call 183; (with_reducible refine HTI.out.mono ?_); rintro e w4 ⟨rfl, h4⟩; have H4 := Lib.hid h4; clear h4)
          go_ret2
          rw [HE.out]
          exact ⟨v, rfl, rfl, H4.out.from HT3.out⟩
        | over =>
          go_wp2_with (go_at_call 183; (with_reducible refine HTI.out.mono ?_); rintro e w4 ⟨rfl, h4⟩; have H4 := Lib.hid h4; clear h4)
          go_ret2
          rw [HE.out]
          obtain ⟨c', h4⟩ := H4.out
          exact ⟨v, rfl, rfl, c', h4.from HT3.out⟩
      · have by_ : (Y.kind == 0) = false := by simp [hyk]
        have HE := Lib.hid (HU.out.trans (oneU_heads hxk hyk))
        have HXK := Lib.hid hxk
        have HYK := Lib.hid hyk
        clear hxk hyk hok
        by_cases h1 : X.kind = Y.kind
        · have t1 : (X.kind != Y.kind) = false := by simp [h1]
          by_cases h2 : X.n = Y.n
          · have t2 : (X.n != Y.n) = false := by simp [h2]
            by_cases h3 : X.name = Y.name
            · have t3 : (X.name.toList != Y.name.toList) = false := by simp [h3]
              have t3' : (X.name.toList == Y.name.toList) = true := by simp [h3]
              by_cases h4 : X.args.length = Y.args.length
              · have t4 : ((X.args.length : Int) != (Y.args.length : Int)) = false := by simp [h4]
                have HE2 : Hid (U = .more (X.bare.args.zip Y.bare.args)) := by show _ = _; rw [HE.out, if_pos ⟨h1, h2, h3, h4⟩]
                have HL4 := Lib.hid h4
                clear h1 h2 h3 h4
                have hal : X.args.length ≤ 8 := by
                  by_cases ha : X.bare.args = []
                  · have := Tm.bare_arity X; rw [ha] at this; simp at this; omega
                  · have := (Tm.one_args (WDX.out.ones _ (by rw [Tm.flat_eq]; exact List.mem_cons_self ..)) ha).2.2
                    rw [Tm.bare_arity] at this; exact this
                go_wp2_with fail
                go_loopg [8] X.args.length (fun q i wr => OneL p bb K v st c O m l X Y w.heap.size w3 q i wr)
                case atStart => exact ⟨Nat.le_refl _, rfl, v, (by (rw [List.drop_eq_nil_of_le (by rw [List.length_zip]; omega), List.reverse_nil, List.append_nil]; exact HK3)), .inl rfl, HXB.out, HYB.out, ⟨HXI.out, HYI.out⟩, Turned.refl _ _⟩
                case round =>
                  obtain ⟨HJ, hi, v4, HK4, HO4, hb4, hb5, HI4, HT4⟩ := hrel
                  rcases gk with _ | q
                  · rw [show (((0 : Nat) : Int) - 1) = -1 from rfl] at hi
                    subst hi
                    go_wp2_with fail
                    go_ret2
                    rw [HE2.out]
                    refine ⟨rfl, v4, X.args.zip Y.args, by simpa using HK4.out, ?_, ?_, (HT3.out.mono (fun _ _ f => f.elim)).trans HT4.out⟩
                    · rw [Tm.bare_args, Tm.bare_args, Tm.bares_eq, Tm.bares_eq, List.zip_map]
                      rfl
                    · exact HO4.out.elim .inl (fun e => .inr (fun g hg => Nat.le_trans HT3.out.size (e g hg)))
                  · rw [show (((q + 1 : Nat) : Int) - 1) = (q : Int) from by omega] at hi
                    subst hi
                    have hm : q < X.args.length := by have := HJ.out; omega
                    obtain ⟨xq, hxq⟩ : ∃ y : LT, X.args[q]? = some y := ⟨_, List.getElem?_eq_getElem hm⟩
                    obtain ⟨yq, hyq⟩ : ∃ y : LT, Y.args[q]? = some y := ⟨_, List.getElem?_eq_getElem (by have := HL4.out; omega)⟩
                    obtain ⟨i0, hi0, hz0, hz1, hz2⟩ := info_parts info187
                    have hlen : (st ++ ((X.args.zip Y.args).drop (q + 1)).reverse).length ≤ 20100 := by
                      rw [List.length_append, List.length_reverse, List.length_drop, List.length_zip]; omega
                    obtain ⟨LL, hLL⟩ : ∃ z, z = st ++ ((X.args.zip Y.args).drop (q + 1)).reverse := ⟨_, rfl⟩
                    rw [← hLL] at HK4 hlen
                    have HLL := Lib.hid hLL
                    clear hLL
                    obtain ⟨b, o, hax, _, d0, d1, d2, d3⟩ := HI4.out.1.lies.cell hxq
                    obtain ⟨b2, o2, hay, _, e0, e1, e2, e3⟩ := HI4.out.2.lies.cell hyq
                    have HAX := Lib.hid hax
                    have HAY := Lib.hid hay
                    have HLY := Lib.hid HL4.out.symm
                    have hpl : ∀ k, p k → ¬ v4.ownBlock = some k := fun k hk e => (HK4.out.vO k e).2.1 hk
                    have HXW : Hid (∀ W, Turned (fun k => v4.ownBlock = some k) wr W → (W.cell? ⟨b, o + q * 4, none⟩ = some (.int .i64 xq.kind) ∧ W.cell? ⟨b, o + q * 4 + 1, none⟩ = some (.int .i64 xq.n) ∧ W.cell? ⟨b, o + q * 4 + 2, none⟩ = some (.string xq.name) ∧ W.cell? ⟨b, o + q * 4 + 3, none⟩ = some (.slice xq.at_.1 xq.args.length xq.at_.2)) ∧ (W.cell? ⟨b2, o2 + q * 4, none⟩ = some (.int .i64 yq.kind) ∧ W.cell? ⟨b2, o2 + q * 4 + 1, none⟩ = some (.int .i64 yq.n) ∧ W.cell? ⟨b2, o2 + q * 4 + 2, none⟩ = some (.string yq.name) ∧ W.cell? ⟨b2, o2 + q * 4 + 3, none⟩ = some (.slice yq.at_.1 yq.args.length yq.at_.2))) := fun W T => by
                      have hX := LT.In.turned T (fun k _ hk e => hpl k hk e) (fun _ _ hk => hk) X HI4.out.1
                      have hY := LT.In.turned T (fun k _ hk e => hpl k hk e) (fun _ _ hk => hk) Y HI4.out.2
                      obtain ⟨b', o', h1, _, z⟩ := hX.lies.cell hxq
                      obtain ⟨b2', o2', h2, _, z2⟩ := hY.lies.cell hyq
                      rw [hax] at h1
                      rw [hay] at h2
                      injection h1 with h1
                      injection h1 with h1 h1'
                      injection h2 with h2
                      injection h2 with h2 h2'
                      subst h1 h1' h2 h2'
                      exact ⟨z, z2⟩
                    have hvl : ∀ k, v4.ownBlock = some k → k ≠ w.heap.size ∧ k ≠ w.heap.size + 1 := fun k hk => by
                      have hs3 : w.heap.size + 2 ≤ w3.heap.size := by have := (Array.getElem?_eq_some_iff.1 HYB.out).1; omega
                      rcases HO4.out with e | e
                      · have := HUK.out.row.lt k (e ▸ hk); omega
                      · have := e k hk; omega
                    have HBW : Hid (∀ W, Turned (fun k => v4.ownBlock = some k) wr W → W.heap[w.heap.size]? = some (.cells #[.int .i64 X.kind, .int .i64 X.n, .string X.name, .slice X.at_.1 X.args.length X.at_.2] 27 (0, 0)) ∧ W.heap[w.heap.size + 1]? = some (.cells #[.int .i64 Y.kind, .int .i64 Y.n, .string Y.name, .slice Y.at_.1 Y.args.length Y.at_.2] 27 (0, 0))) := fun W T => ⟨(T.block _ (Array.getElem?_eq_some_iff.1 hb4).1 (fun e => (hvl _ e).1 rfl)).trans hb4, (T.block _ (Array.getElem?_eq_some_iff.1 hb5).1 (fun e => (hvl _ e).2 rfl)).trans hb5⟩
                    have HKB : Hid (∀ W, Turned (fun k => v4.ownBlock = some k) wr W → W.heap[K]? = some (.cells #[.pointer (some ⟨bb, 0, none⟩), v4, .int .i64 (c : Int)] 190 (0, 0))) := fun W T => (T.block _ (Array.getElem?_eq_some_iff.1 HK4.out.k).1 (fun e => (HK4.out.vO K e).2.2 rfl)).trans HK4.out.k
                    have HKW : Hid (∀ W, Turned (fun k => v4.ownBlock = some k) wr W → W.cell? ⟨K, 0, none⟩ = some (.pointer (some ⟨bb, 0, none⟩)) ∧ W.cell? ⟨K, 1, none⟩ = some v4 ∧ W.cell? ⟨K, 2, none⟩ = some (.int .i64 c) ∧ W.frozen? ⟨K, 1, none⟩ = false ∧ W.frozen? ⟨K, 2, none⟩ = false) := fun W T =>
                      ⟨by (rw [cell_of_row W K 0 _ 190 (0, 0) (HKB.out W T)]; rfl), by (rw [cell_of_row W K 1 _ 190 (0, 0) (HKB.out W T)]; rfl), by (rw [cell_of_row W K 2 _ 190 (0, 0) (HKB.out W T)]; rfl), frozen_of_row W K 1 _ 190 (HKB.out W T), frozen_of_row W K 2 _ 190 (HKB.out W T)⟩
                    have hxl := HI4.out.1.len
                    have hylen := HI4.out.2.len
                    have hxm : X.at_.2 ≤ 9223372036854775807 := by have := hxl.2.1; unfold maxLen at this; exact this
                    have hym : Y.at_.2 ≤ 9223372036854775807 := by have := hylen.2.1; unfold maxLen at this; exact this
                    have HXQ := Lib.hid hxq
                    have HYQ := Lib.hid hyq
                    have HB4 := Lib.hid (And.intro hb4 hb5)
                    clear d0 d1 d2 d3 e0 e1 e2 e3 hax hay hb4 hb5 hxq hyq hvl hpl hxl hylen c0 c1 c2 c3 f0 f1 f2 f3 g0 g1 g2 g3 k0 k1 k2 kf1 kf2
                    try clear d0 d1 d2 d3
                    go_wp2_with fail
                    refine wp_region_hsW [108, 109, 110, 111, 112, 113, 114, 115, 116, 117, 118, 119, 120, 121, 122, 123, 124, 125, 126, 127] [16, 17, 20] [2, 1, 1, 1, 1, 0, 0, 0, 0, 0, 0, 0, 0, 0, 0, 0, 1, 2, 2, 2, 3] [124, 125, 100020] (fun dd vv => (match dd with | 108 => vv = .pointer (some ⟨K, 0, none⟩) | 109 => vv = .pointer (some ⟨K, 0, none⟩) | 110 => vv = .pointer (some ⟨K, 0, none⟩) | 111 => vv = .pointer (some ⟨K, 1, none⟩) | 112 => vv = v4 | 113 => vv = .pointer (some ⟨w.heap.size, 3, none⟩) | 114 => vv = .slice (some ⟨b, o, none⟩) X.args.length X.at_.2 | 115 => vv = .int .i64 q | 116 => vv = .pointer (some ⟨b, o + q * 4, none⟩) | 117 => vv = .agg #[.int .i64 xq.kind, .int .i64 xq.n, .string xq.name, .slice xq.at_.1 xq.args.length xq.at_.2] | 118 => vv = .pointer (some ⟨w.heap.size + 1, 3, none⟩) | 119 => vv = .slice (some ⟨b2, o2, none⟩) Y.args.length Y.at_.2 | 120 => vv = .int .i64 q | 121 => vv = .pointer (some ⟨b2, o2 + q * 4, none⟩) | 122 => vv = .agg #[.int .i64 yq.kind, .int .i64 yq.n, .string yq.name, .slice yq.at_.1 yq.args.length yq.at_.2] | 123 => vv = .agg #[.int .i64 xq.kind, .int .i64 xq.n, .string xq.name, .slice xq.at_.1 xq.args.length xq.at_.2, .int .i64 yq.kind, .int .i64 yq.n, .string yq.name, .slice yq.at_.1 yq.args.length yq.at_.2] | 126 => vv = .pointer (some ⟨K, 0, none⟩) | 127 => vv = .pointer (some ⟨K, 1, none⟩) | _ => True : Prop)) (PsS bb K v4 LL.length (LL.flatMap PT.cells) (c : Int) xq yq wr) (by kernel_rfl) rfl (by kernel_rfl) (by kernel_rfl) (by kernel_rfl) (by kernel_rfl) (fun w h => h) (fun hs w w' h T => PsS.turned0 hs w w' h T) ?hs ?hQ
                    case hs =>
                      refine ⟨?s0, ?s1, ?s2, ?s3, ?s4, ?s5, ?s6, ?s7, ?s8, ?s9, ?s10, ?s11, ?s12, ?s13, ?s14, ?s15, ?s16, ?s17, ?s18, ?s19, ?s20, trivial⟩
                      case s0 =>
                        refine fun hs hle => stepG_free [] [0] (by kernel_rfl) rfl ?_
                        intro ac W hT hI hO
                        have hle : hs.length ≤ 2 := hle
                        have h0 : ac.tmps.getD 0 undef = .pointer (some ⟨K, 0, none⟩) := hO 0 (by simp)
                        show Brings Try.prog (fun vv w' => Turned (fun _ => False) W w' ∧ vv = .pointer (some ⟨K, 0, none⟩)) _
                        simp only [execOp, Act.eval, h0]
                        go_simp
                        try exact ⟨Turned.refl _ _, rfl⟩
                      case s1 =>
                        refine fun hs hle => stepG_free [] [0] (by kernel_rfl) rfl ?_
                        intro ac W hT hI hO
                        have hle : hs.length ≤ 1 := hle
                        have h0 : ac.tmps.getD 0 undef = .pointer (some ⟨K, 0, none⟩) := hO 0 (by simp)
                        show Brings Try.prog (fun vv w' => Turned (fun _ => False) W w' ∧ vv = .pointer (some ⟨K, 0, none⟩)) _
                        simp only [execOp, Act.eval, h0]
                        go_simp
                        try exact ⟨Turned.refl _ _, rfl⟩
                      case s2 =>
                        refine fun hs hle => stepG_free [109] [] (by kernel_rfl) rfl ?_
                        intro ac W hT hI hO
                        have hle : hs.length ≤ 1 := hle
                        have h109 : ac.tmps.getD 109 undef = .pointer (some ⟨K, 0, none⟩) := hI 109 (by simp)
                        show Brings Try.prog (fun vv w' => Turned (fun _ => False) W w' ∧ vv = .pointer (some ⟨K, 0, none⟩)) _
                        obtain ⟨k0, k1, k2, kf1, kf2⟩ := HKW.out W (PsS.turned hs W (by omega) hT)
                        simp only [execOp, Act.eval, h109]
                        go_simp
                        try exact ⟨Turned.refl _ _, rfl⟩
                      case s3 =>
                        refine fun hs hle => stepG_free [110] [] (by kernel_rfl) rfl ?_
                        intro ac W hT hI hO
                        have hle : hs.length ≤ 1 := hle
                        have h110 : ac.tmps.getD 110 undef = .pointer (some ⟨K, 0, none⟩) := hI 110 (by simp)
                        show Brings Try.prog (fun vv w' => Turned (fun _ => False) W w' ∧ vv = .pointer (some ⟨K, 1, none⟩)) _
                        simp only [execOp, Act.eval, h110]
                        go_simp
                        try exact ⟨Turned.refl _ _, rfl⟩
                      case s4 =>
                        refine fun hs hle => stepG_free [111] [] (by kernel_rfl) rfl ?_
                        intro ac W hT hI hO
                        have hle : hs.length ≤ 1 := hle
                        have h111 : ac.tmps.getD 111 undef = .pointer (some ⟨K, 1, none⟩) := hI 111 (by simp)
                        show Brings Try.prog (fun vv w' => Turned (fun _ => False) W w' ∧ vv = v4) _
                        obtain ⟨k0, k1, k2, kf1, kf2⟩ := HKW.out W (PsS.turned hs W (by omega) hT)
                        simp only [execOp, Act.eval, h111]
                        go_simp
                        try exact ⟨Turned.refl _ _, rfl⟩
                      case s5 =>
                        refine fun hs hle => stepG_free [] [4] (by kernel_rfl) rfl ?_
                        intro ac W hT hI hO
                        have hle : hs.length ≤ 0 := hle
                        have h4 : ac.tmps.getD 4 undef = .pointer (some ⟨w.heap.size, 0, none⟩) := hO 4 (by simp)
                        show Brings Try.prog (fun vv w' => Turned (fun _ => False) W w' ∧ vv = .pointer (some ⟨w.heap.size, 3, none⟩)) _
                        simp only [execOp, Act.eval, h4]
                        go_simp
                        try exact ⟨Turned.refl _ _, rfl⟩
                      case s6 =>
                        refine fun hs hle => stepG_free [113] [] (by kernel_rfl) rfl ?_
                        intro ac W hT hI hO
                        have hle : hs.length ≤ 0 := hle
                        have h113 : ac.tmps.getD 113 undef = .pointer (some ⟨w.heap.size, 3, none⟩) := hI 113 (by simp)
                        show Brings Try.prog (fun vv w' => Turned (fun _ => False) W w' ∧ vv = .slice (some ⟨b, o, none⟩) X.args.length X.at_.2) _
                        obtain ⟨c0, c1, c2, c3, _⟩ := cells4 ((HBW.out W (PsS.turned hs W (by omega) hT)).1)
                        rw [HAX.out] at c3
                        simp only [execOp, Act.eval, h113]
                        go_simp
                        try exact ⟨Turned.refl _ _, rfl⟩
                      case s7 =>
                        refine fun hs hle => stepG_free [] [8] (by kernel_rfl) rfl ?_
                        intro ac W hT hI hO
                        have hle : hs.length ≤ 0 := hle
                        have h8 : ac.tmps.getD 8 undef = .int .i64 q := hO 8 (by simp)
                        show Brings Try.prog (fun vv w' => Turned (fun _ => False) W w' ∧ vv = .int .i64 q) _
                        simp only [execOp, Act.eval, h8]
                        go_simp
                        try exact ⟨Turned.refl _ _, rfl⟩
                      case s8 =>
                        refine fun hs hle => stepG_free [114, 115] [] (by kernel_rfl) rfl ?_
                        intro ac W hT hI hO
                        have hle : hs.length ≤ 0 := hle
                        have h114 : ac.tmps.getD 114 undef = .slice (some ⟨b, o, none⟩) X.args.length X.at_.2 := hI 114 (by simp)
                        have h115 : ac.tmps.getD 115 undef = .int .i64 q := hI 115 (by simp)
                        show Brings Try.prog (fun vv w' => Turned (fun _ => False) W w' ∧ vv = .pointer (some ⟨b, o + q * 4, none⟩)) _
                        have hyl := HLY.out
                        simp only [execOp, Act.eval, h114, h115]
                        go_simp
                        try rw [if_pos (by omega)]
                        try exact ⟨Turned.refl _ _, rfl⟩
                      case s9 =>
                        refine fun hs hle => stepG_free [116] [] (by kernel_rfl) rfl ?_
                        intro ac W hT hI hO
                        have hle : hs.length ≤ 0 := hle
                        have h116 : ac.tmps.getD 116 undef = .pointer (some ⟨b, o + q * 4, none⟩) := hI 116 (by simp)
                        show Brings Try.prog (fun vv w' => Turned (fun _ => False) W w' ∧ vv = .agg #[.int .i64 xq.kind, .int .i64 xq.n, .string xq.name, .slice xq.at_.1 xq.args.length xq.at_.2]) _
                        obtain ⟨x0, x1, x2, x3⟩ := (HXW.out W (PsS.turned hs W (by omega) hT)).1
                        simp only [execOp, Act.eval, h116]
                        go_simp
                        try exact ⟨Turned.refl _ _, rfl⟩
                      case s10 =>
                        refine fun hs hle => stepG_free [] [5] (by kernel_rfl) rfl ?_
                        intro ac W hT hI hO
                        have hle : hs.length ≤ 0 := hle
                        have h5 : ac.tmps.getD 5 undef = .pointer (some ⟨w.heap.size + 1, 0, none⟩) := hO 5 (by simp)
                        show Brings Try.prog (fun vv w' => Turned (fun _ => False) W w' ∧ vv = .pointer (some ⟨w.heap.size + 1, 3, none⟩)) _
                        simp only [execOp, Act.eval, h5]
                        go_simp
                        try exact ⟨Turned.refl _ _, rfl⟩
                      case s11 =>
                        refine fun hs hle => stepG_free [118] [] (by kernel_rfl) rfl ?_
                        intro ac W hT hI hO
                        have hle : hs.length ≤ 0 := hle
                        have h118 : ac.tmps.getD 118 undef = .pointer (some ⟨w.heap.size + 1, 3, none⟩) := hI 118 (by simp)
                        show Brings Try.prog (fun vv w' => Turned (fun _ => False) W w' ∧ vv = .slice (some ⟨b2, o2, none⟩) Y.args.length Y.at_.2) _
                        obtain ⟨c0, c1, c2, c3, _⟩ := cells4 ((HBW.out W (PsS.turned hs W (by omega) hT)).2)
                        rw [HAY.out] at c3
                        simp only [execOp, Act.eval, h118]
                        go_simp
                        try exact ⟨Turned.refl _ _, rfl⟩
                      case s12 =>
                        refine fun hs hle => stepG_free [] [8] (by kernel_rfl) rfl ?_
                        intro ac W hT hI hO
                        have hle : hs.length ≤ 0 := hle
                        have h8 : ac.tmps.getD 8 undef = .int .i64 q := hO 8 (by simp)
                        show Brings Try.prog (fun vv w' => Turned (fun _ => False) W w' ∧ vv = .int .i64 q) _
                        simp only [execOp, Act.eval, h8]
                        go_simp
                        try exact ⟨Turned.refl _ _, rfl⟩
                      case s13 =>
                        refine fun hs hle => stepG_free [119, 120] [] (by kernel_rfl) rfl ?_
                        intro ac W hT hI hO
                        have hle : hs.length ≤ 0 := hle
                        have h119 : ac.tmps.getD 119 undef = .slice (some ⟨b2, o2, none⟩) Y.args.length Y.at_.2 := hI 119 (by simp)
                        have h120 : ac.tmps.getD 120 undef = .int .i64 q := hI 120 (by simp)
                        show Brings Try.prog (fun vv w' => Turned (fun _ => False) W w' ∧ vv = .pointer (some ⟨b2, o2 + q * 4, none⟩)) _
                        have hyl := HLY.out
                        simp only [execOp, Act.eval, h119, h120]
                        go_simp
                        try rw [if_pos (by omega)]
                        try exact ⟨Turned.refl _ _, rfl⟩
                      case s14 =>
                        refine fun hs hle => stepG_free [121] [] (by kernel_rfl) rfl ?_
                        intro ac W hT hI hO
                        have hle : hs.length ≤ 0 := hle
                        have h121 : ac.tmps.getD 121 undef = .pointer (some ⟨b2, o2 + q * 4, none⟩) := hI 121 (by simp)
                        show Brings Try.prog (fun vv w' => Turned (fun _ => False) W w' ∧ vv = .agg #[.int .i64 yq.kind, .int .i64 yq.n, .string yq.name, .slice yq.at_.1 yq.args.length yq.at_.2]) _
                        obtain ⟨x0, x1, x2, x3⟩ := (HXW.out W (PsS.turned hs W (by omega) hT)).2
                        simp only [execOp, Act.eval, h121]
                        go_simp
                        try exact ⟨Turned.refl _ _, rfl⟩
                      case s15 =>
                        refine fun hs hle => stepG_free [117, 122] [] (by kernel_rfl) rfl ?_
                        intro ac W hT hI hO
                        have hle : hs.length ≤ 0 := hle
                        have h117 : ac.tmps.getD 117 undef = .agg #[.int .i64 xq.kind, .int .i64 xq.n, .string xq.name, .slice xq.at_.1 xq.args.length xq.at_.2] := hI 117 (by simp)
                        have h122 : ac.tmps.getD 122 undef = .agg #[.int .i64 yq.kind, .int .i64 yq.n, .string yq.name, .slice yq.at_.1 yq.args.length yq.at_.2] := hI 122 (by simp)
                        show Brings Try.prog (fun vv w' => Turned (fun _ => False) W w' ∧ vv = .agg #[.int .i64 xq.kind, .int .i64 xq.n, .string xq.name, .slice xq.at_.1 xq.args.length xq.at_.2, .int .i64 yq.kind, .int .i64 yq.n, .string yq.name, .slice yq.at_.1 yq.args.length yq.at_.2]) _
                        refine brings_build187 117 122 rfl h117 h122 ?_
                        exact ⟨Turned.refl _ _, rfl⟩
                      case s16 =>
                        refine fun hs hlen => stepG_free [123] [] (by kernel_rfl) rfl ?_
                        intro ac W hT hI hO
                        have h123 : ac.tmps.getD 123 undef = .agg #[.int .i64 xq.kind, .int .i64 xq.n, .string xq.name, .slice xq.at_.1 xq.args.length xq.at_.2, .int .i64 yq.kind, .int .i64 yq.n, .string yq.name, .slice yq.at_.1 yq.args.length yq.at_.2] := hI 123 (by simp)
                        obtain rfl : hs = [] := List.eq_nil_of_length_eq_zero hlen
                        replace hT : Turned (fun _ => False) wr W := hT
                        show Brings Try.prog (fun vv w' => PsS bb K v4 LL.length (LL.flatMap PT.cells) (c : Int) xq yq wr [vv] w') _
                        refine brings_slice188 123 rfl h123 ?_
                        exact ⟨hT.alloc _, _, rfl, heap_alloc_new W _⟩
                      case s17 =>
                        refine fun hs hlen => stepG_free [112, 124] [] (by kernel_rfl) rfl ?_
                        intro ac W hT hI hO
                        have h112 : ac.tmps.getD 112 undef = v4 := hI 112 (by simp)
                        have h124 : hs[0]? = some (ac.tmps.getD 124 undef) := hI 124 (by simp)
                        obtain ⟨a, rfl⟩ := List.length_eq_one_iff.1 hlen
                        obtain ⟨hT1, g0, ha, hg0⟩ := hT
                        have e124 : a = ac.tmps.getD 124 undef := by simpa using h124
                        rw [e124] at ha
                        show Brings Try.prog (fun vv w' => PsS bb K v4 LL.length (LL.flatMap PT.cells) (c : Int) xq yq wr [a, vv] w') _
                        have hnb := news_block (cs := PT.cells (xq, yq)) (by unfold PT.cells; rw [LT.cells_eq, LT.cells_eq]; exact hg0)
                        refine brings_append_any (.tmp 112) (.tmp 124) 188 rfl 187 i0 _ 8 112 Try.underlying188 hi0 hz0 hz1 hz2 rfl (by decide) v4 _ _ h112 (HK4.out.row.turned0 hT1) (some ⟨g0, 0, none⟩) 1 1 (PT.cells (xq, yq)) ha (fun e => by cases e) (PT.cells_length _) (fun ad e j u hu => by injection e with e; subst e; exact hnb j u hu) (PT.cells_one _) (by unfold maxLen; omega) (by omega) ?_
                        intro v5 w5 hr5 T5 ho5
                        exact ⟨hr5, ho5.elim .inl (fun e => .inr (fun g hg => by rw [hg] at e; injection e with e; have := hT1.size; omega)), (hT1.mono (fun _ _ f => f.elim)).trans T5⟩
                      case s18 =>
                        refine fun hs hle => stepG_free [108] [] (by kernel_rfl) rfl ?_
                        intro ac W hT hI hO
                        have hle : hs.length ≤ 2 := hle
                        have h108 : ac.tmps.getD 108 undef = .pointer (some ⟨K, 0, none⟩) := hI 108 (by simp)
                        show Brings Try.prog (fun vv w' => Turned (fun _ => False) W w' ∧ vv = .pointer (some ⟨K, 0, none⟩)) _
                        obtain ⟨k0, k1, k2, kf1, kf2⟩ := HKW.out W (PsS.turned hs W (by omega) hT)
                        simp only [execOp, Act.eval, h108]
                        go_simp
                        try exact ⟨Turned.refl _ _, rfl⟩
                      case s19 =>
                        refine fun hs hle => stepG_free [126] [] (by kernel_rfl) rfl ?_
                        intro ac W hT hI hO
                        have hle : hs.length ≤ 2 := hle
                        have h126 : ac.tmps.getD 126 undef = .pointer (some ⟨K, 0, none⟩) := hI 126 (by simp)
                        show Brings Try.prog (fun vv w' => Turned (fun _ => False) W w' ∧ vv = .pointer (some ⟨K, 1, none⟩)) _
                        simp only [execOp, Act.eval, h126]
                        go_simp
                        try exact ⟨Turned.refl _ _, rfl⟩
                      case s20 =>
                        refine fun hs hlen => stepG_free [127, 125] [] (by kernel_rfl) rfl ?_
                        intro ac W hT hI hO
                        have h127 : ac.tmps.getD 127 undef = .pointer (some ⟨K, 1, none⟩) := hI 127 (by simp)
                        have h125 : hs[1]? = some (ac.tmps.getD 125 undef) := hI 125 (by simp)
                        obtain ⟨a, b9, rfl⟩ := list2' hlen
                        obtain ⟨hr5, ho5, T5⟩ := hT
                        have e125 : b9 = ac.tmps.getD 125 undef := by simpa using h125
                        obtain ⟨k0, k1, k2, kf1, kf2⟩ := HKW.out W T5
                        obtain ⟨ra, rc, e5⟩ := hr5.shape
                        have hsk := heap_setCell_same W K 1 _ 190 b9 (HKB.out W T5)
                        have HSK := Lib.hid hsk
                        have T6 : Turned (fun k => k = K ∨ v4.ownBlock = some k) W (W.setCell ⟨K, 1, none⟩ b9) := (Turned.refl _ W).setCell (p := ⟨K, 1, none⟩) (.inr (.inl rfl)) b9
                        have hne : b9.ownBlock ≠ some K := fun e => by
                          rcases ho5 with h | h
                          · exact (HK4.out.vO K (h ▸ e)).2.2 rfl
                          · have := h K e; have := (Array.getElem?_eq_some_iff.1 HK4.out.k).1; omega
                        have HR6 := Lib.hid (hr5.setCell (p := ⟨K, 1, none⟩) hne b9)
                        have HT6 := Lib.hid ((T5.mono (fun _ _ e => Or.inr e)).trans T6)
                        have HO6 := Lib.hid ho5
                        have h125' : ac.tmps.getD 125 undef = b9 := e125.symm
                        show Brings Try.prog (fun vv w' => PsS bb K v4 LL.length (LL.flatMap PT.cells) (c : Int) xq yq wr [a, b9, vv] w') _
                        clear hsk T6 hne hr5 T5 ho5 e125 h125
                        subst e5
                        simp only [execOp, Act.eval, h127, h125']
                        go_simp
                        exact ⟨HR6.out, HO6.out, HT6.out, by simpa using HSK.out⟩
                    case hQ =>
                      intro hs15 vs15 w5 hlen15 hR hV
                      simp only [List.foldl_cons, List.foldl_nil, List.setIfInBounds_toArray, List.set_cons_zero, List.set_cons_succ]
                      obtain ⟨z1, a5, z3, rfl⟩ := list3' hlen15
                      obtain ⟨r1, r2, r3, r4⟩ := hR
                      have HPK := Lib.hid (HK4.out.push (X := xq) (Y := yq) ⟨(LT.ins_iff _).1 HI4.out.1.args xq (List.mem_of_getElem? HXQ.out), Tm.ownB_arg OWX.out (by rw [Tm.bare_kind]; exact HXK.out) (by rw [Tm.bare_args, Tm.bares_eq]; exact List.mem_map_of_mem (List.mem_of_getElem? HXQ.out))⟩ ⟨(LT.ins_iff _).1 HI4.out.2.args yq (List.mem_of_getElem? HYQ.out), Tm.ownB_arg OWY.out (by rw [Tm.bare_kind]; exact HYK.out) (by rw [Tm.bare_args, Tm.bares_eq]; exact List.mem_map_of_mem (List.mem_of_getElem? HYQ.out))⟩ r1 r2 r3 r4)
                      have HR2 := Lib.hid r2
                      have HR3 := Lib.hid r3
                      clear r1 r2 r3 r4 hlen15 hV
                      go_wp2_with fail
                      go_roundg q
                      case measure => omega
                      case rel =>
                        have hz : (X.args.zip Y.args).drop q = (xq, yq) :: (X.args.zip Y.args).drop (q + 1) := by
                          have hzl : q < (X.args.zip Y.args).length := by rw [List.length_zip]; have := HL4.out; omega
                          rw [List.drop_eq_getElem_cons hzl]
                          congr 1
                          rw [List.getElem_zip]
                          have h1 := HXQ.out
                          have h2 := HYQ.out
                          rw [List.getElem?_eq_getElem hm] at h1
                          rw [List.getElem?_eq_getElem (by have := HL4.out; omega)] at h2
                          injection h1 with h1
                          injection h2 with h2
                          rw [h1, h2]
                        have hown : ∀ k, k < w3.heap.size → (k = K ∨ v4.ownBlock = some k) → ownU K v O k := fun k hk e => by
                          rcases e with e | e
                          · exact .inl e
                          · rcases HO4.out with h | h
                            · exact .inr (.inl (h ▸ e))
                            · have := h k e; omega
                        have hps : ∀ k, k = w.heap.size ∨ k = w.heap.size + 1 → ¬ (k = K ∨ v4.ownBlock = some k) := fun k hk e => by
                          have hs3 : w.heap.size + 2 ≤ w3.heap.size := by have := (Array.getElem?_eq_some_iff.1 HYB.out).1; omega
                          rcases e with e | e
                          · omega
                          · rcases HO4.out with h | h
                            · have := HUK.out.row.lt k (h ▸ e); omega
                            · have := h k e; omega
                        have hpt : ∀ t : LT, t.In p wr → t.In p w5 := fun t ht => LT.In.turned HR3.out (fun k _ hk e => by
                          rcases e with e | e
                          · exact HK4.out.kO.2 (e ▸ hk)
                          · exact (HK4.out.vO k e).2.1 hk) (fun _ _ hk => hk) t ht
                        refine ⟨by have := HJ.out; show _ ≤ _; omega, rfl, a5, ?_, ?_, ?_, ?_, ⟨hpt _ HI4.out.1, hpt _ HI4.out.2⟩, HT4.out.step HR3.out hown⟩
                        · show UK _ _ _ _ _ _ _ _ _ _
                          rw [hz, List.reverse_cons, ← List.append_assoc, ← HLL.out]
                          exact HPK.out
                        · show _ ∨ _
                          rcases HR2.out with e | e
                          · rcases HO4.out with h | h
                            · exact .inl (e.trans h)
                            · exact .inr (fun g hg => h g (e ▸ hg))
                          · exact .inr (fun g hg => Nat.le_trans HT4.out.size (e g hg))
                        · exact (HR3.out.block _ (Array.getElem?_eq_some_iff.1 HB4.out.1).1 (hps _ (.inl rfl))).trans HB4.out.1
                        · exact (HR3.out.block _ (Array.getElem?_eq_some_iff.1 HB4.out.2).1 (hps _ (.inr rfl))).trans HB4.out.2
              · have t4 : ((X.args.length : Int) != (Y.args.length : Int)) = true := by simp; omega
                have HE2 : Hid (U = .done (.no (2000 - c))) := by show _ = _; rw [HE.out, if_neg (fun e => h4 e.2.2.2)]
                clear h1 h2 h3 h4
                go_wp2_with fail
                go_ret2
                rw [HE2.out]
                refine ⟨v, rfl, rfl, ?_⟩
                rw [show (2000 - ((2000 - c : Nat) : Int)) = (c : Int) from by omega]
                exact UA.same HK3.out (HT3.out.mono (fun _ _ f => f.elim))
            · have t3 : (X.name.toList != Y.name.toList) = true := by rw [bne, str_neq h3]; rfl
              have t3' : (X.name.toList == Y.name.toList) = false := str_neq h3
              have HE2 : Hid (U = .done (.no (2000 - c))) := by show _ = _; rw [HE.out, if_neg (fun e => h3 e.2.2.1)]
              clear h1 h2 h3
              go_wp2_with fail
              go_ret2
              rw [HE2.out]
              refine ⟨v, rfl, rfl, ?_⟩
              rw [show (2000 - ((2000 - c : Nat) : Int)) = (c : Int) from by omega]
              exact UA.same HK3.out (HT3.out.mono (fun _ _ f => f.elim))
          · have t2 : (X.n != Y.n) = true := by simp [h2]
            have HE2 : Hid (U = .done (.no (2000 - c))) := by show _ = _; rw [HE.out, if_neg (fun e => h2 e.2.1)]
            clear h1 h2
            go_wp2_with fail
            go_ret2
            rw [HE2.out]
            refine ⟨v, rfl, rfl, ?_⟩
            rw [show (2000 - ((2000 - c : Nat) : Int)) = (c : Int) from by omega]
            exact UA.same HK3.out (HT3.out.mono (fun _ _ f => f.elim))
        · have t1 : (X.kind != Y.kind) = true := by simp [h1]
          have HE2 : Hid (U = .done (.no (2000 - c))) := by show _ = _; rw [HE.out, if_neg (fun e => h1 e.1)]
          clear h1
          go_wp2_with fail
          go_ret2
          rw [HE2.out]
          refine ⟨v, rfl, rfl, ?_⟩
          rw [show (2000 - ((2000 - c : Nat) : Int)) = (c : Int) from by omega]
          exact UA.same HK3.out (HT3.out.mono (fun _ _ f => f.elim))
end
end Go.Proofs.Ytoihjobdfjajfaa
namespace Go.Proofs.Ytoihjobdfjajfaa
open Go.RowKit Go.Maps
set_option linter.unusedVariables false
set_option linter.unusedSimpArgs false
def WkD (p : Nat → Prop) (X0 Y0 : Tm Unit) (N : Nat) (w2 : World) : List Value → World → Prop
  | [], W => Turned (fun _ => False) w2 W
  | [a], W => Turned (fun _ => False) w2 W ∧ ∃ X : LT, a = .agg #[.int .i64 X.kind, .int .i64 X.n, .string X.name, .slice X.at_.1 X.args.length X.at_.2] ∧ X.In p W ∧ X.bare = X0
  | [a, b], W => Turned (fun _ => False) w2 W ∧ (∃ X : LT, a = .agg #[.int .i64 X.kind, .int .i64 X.n, .string X.name, .slice X.at_.1 X.args.length X.at_.2] ∧ X.In p W ∧ X.bare = X0) ∧ ∃ Y : LT, b = .agg #[.int .i64 Y.kind, .int .i64 Y.n, .string Y.name, .slice Y.at_.1 Y.args.length Y.at_.2] ∧ Y.In p W ∧ Y.bare = Y0
  | [_, b, _], W => Turned (fun k => k = N) w2 W ∧ (∃ X : LT, W.heap[N]? = some (.cells #[.int .i64 X.kind, .int .i64 X.n, .string X.name, .slice X.at_.1 X.args.length X.at_.2] 41 (0, 0)) ∧ X.In p W ∧ X.bare = X0) ∧ ∃ Y : LT, b = .agg #[.int .i64 Y.kind, .int .i64 Y.n, .string Y.name, .slice Y.at_.1 Y.args.length Y.at_.2] ∧ Y.In p W ∧ Y.bare = Y0
  | [_, _, _, _], W => Turned (fun k => k = N ∨ k = N + 1) w2 W ∧ (∃ X : LT, W.heap[N]? = some (.cells #[.int .i64 X.kind, .int .i64 X.n, .string X.name, .slice X.at_.1 X.args.length X.at_.2] 41 (0, 0)) ∧ X.In p W ∧ X.bare = X0) ∧ ∃ Y : LT, W.heap[N + 1]? = some (.cells #[.int .i64 Y.kind, .int .i64 Y.n, .string Y.name, .slice Y.at_.1 Y.args.length Y.at_.2] 41 (0, 0)) ∧ Y.In p W ∧ Y.bare = Y0
  | _, _ => False
section
variable {p : Nat → Prop} {X0 Y0 : Tm Unit} {N : Nat} {w2 W W' : World}
theorem WkD.turned0 : ∀ (hs : List Value) (w w' : World), WkD p X0 Y0 N w2 hs w → Turned (fun _ => False) w w' → WkD p X0 Y0 N w2 hs w'
  | [], _, _, h, T => Turned.trans h T
  | [_], _, _, h, T => by obtain ⟨h1, X, x1, x2, x3⟩ := h; exact ⟨h1.trans T, X, x1, x2.turned0 T, x3⟩
  | [_, _], _, _, h, T => by obtain ⟨h1, ⟨X, x1, x2, x3⟩, Y, y1, y2, y3⟩ := h; exact ⟨h1.trans T, ⟨X, x1, x2.turned0 T, x3⟩, Y, y1, y2.turned0 T, y3⟩
  | [_, _, _], _, _, h, T => by obtain ⟨h1, ⟨X, x1, x2, x3⟩, Y, y1, y2, y3⟩ := h; exact ⟨h1.trans (T.mono (fun _ _ f => f.elim)), ⟨X, (T.block _ (Array.getElem?_eq_some_iff.1 x1).1 (fun f => f)).trans x1, x2.turned0 T, x3⟩, Y, y1, y2.turned0 T, y3⟩
  | [_, _, _, _], _, _, h, T => by obtain ⟨h1, ⟨X, x1, x2, x3⟩, Y, y1, y2, y3⟩ := h; exact ⟨h1.trans (T.mono (fun _ _ f => f.elim)), ⟨X, (T.block _ (Array.getElem?_eq_some_iff.1 x1).1 (fun f => f)).trans x1, x2.turned0 T, x3⟩, Y, (T.block _ (Array.getElem?_eq_some_iff.1 y1).1 (fun f => f)).trans y1, y2.turned0 T, y3⟩
  | _ :: _ :: _ :: _ :: _ :: _, _, _, h, _ => h.elim
theorem WkD.turned : ∀ (hs : List Value) (W : World), WkD p X0 Y0 N w2 hs W → Turned (fun k => k = N ∨ k = N + 1) w2 W
  | [], _, h => Turned.mono h (fun _ _ f => f.elim)
  | [_], _, h => h.1.mono (fun _ _ f => f.elim)
  | [_, _], _, h => h.1.mono (fun _ _ f => f.elim)
  | [_, _, _], _, h => h.1.mono (fun _ _ e => .inl e)
  | [_, _, _, _], _, h => h.1
  | _ :: _ :: _ :: _ :: _ :: _, _, h => h.elim
theorem WkD.early : ∀ (hs : List Value) (W : World), hs.length ≤ 2 → WkD p X0 Y0 N w2 hs W → Turned (fun _ => False) w2 W
  | [], _, _, h => h
  | [_], _, _, h => h.1
  | [_, _], _, _, h => h.1
theorem WkD.store1 {a b q : Value} {X : LT} (h : WkD p X0 Y0 N w2 [a, b] W) (hX : a = .agg #[.int .i64 X.kind, .int .i64 X.n, .string X.name, .slice X.at_.1 X.args.length X.at_.2]) (hXi : X.In p W) (hXb : X.bare = X0) (hN : ∃ a0 b0 c0 d0, W.heap[N]? = some (.cells #[a0, b0, c0, d0] 41 (0, 0))) (hp : ¬ p N) :
    WkD p X0 Y0 N w2 [a, b, q] ((((W.setCell ⟨N, 0, none⟩ (.int .i64 X.kind)).setCell ⟨N, 1, none⟩ (.int .i64 X.n)).setCell ⟨N, 2, none⟩ (.string X.name)).setCell ⟨N, 3, none⟩ (.slice X.at_.1 X.args.length X.at_.2)) := by
  obtain ⟨h1, _, Y, y1, y2, y3⟩ := h
  obtain ⟨a0, b0, c0, d0, hN⟩ := hN
  have T := turned_store4 W N (.int .i64 X.kind) (.int .i64 X.n) (.string X.name) (.slice X.at_.1 X.args.length X.at_.2)
  have hs := set4 (a' := .int .i64 X.kind) (b' := .int .i64 X.n) (c' := .string X.name) (d' := .slice X.at_.1 X.args.length X.at_.2) hN
  exact ⟨(h1.mono (fun _ _ f => f.elim)).trans T, ⟨X, hs, LT.In.turned T (fun k _ hk e => hp (e ▸ hk)) (fun _ _ hk => hk) _ hXi, hXb⟩, Y, y1, LT.In.turned T (fun k _ hk e => hp (e ▸ hk)) (fun _ _ hk => hk) _ y2, y3⟩
theorem WkD.store2 {a b c q : Value} {Y : LT} (h : WkD p X0 Y0 N w2 [a, b, c] W) (hYi : Y.In p W) (hYb : Y.bare = Y0) (hN : ∃ a0 b0 c0 d0, W.heap[N + 1]? = some (.cells #[a0, b0, c0, d0] 41 (0, 0))) (hp : ¬ p (N + 1)) :
    WkD p X0 Y0 N w2 [a, b, c, q] ((((W.setCell ⟨N + 1, 0, none⟩ (.int .i64 Y.kind)).setCell ⟨N + 1, 1, none⟩ (.int .i64 Y.n)).setCell ⟨N + 1, 2, none⟩ (.string Y.name)).setCell ⟨N + 1, 3, none⟩ (.slice Y.at_.1 Y.args.length Y.at_.2)) := by
  obtain ⟨h1, ⟨X, x1, x2, x3⟩, _⟩ := h
  obtain ⟨a0, b0, c0, d0, hN⟩ := hN
  have T := turned_store4 W (N + 1) (.int .i64 Y.kind) (.int .i64 Y.n) (.string Y.name) (.slice Y.at_.1 Y.args.length Y.at_.2)
  have hs := set4 (a' := .int .i64 Y.kind) (b' := .int .i64 Y.n) (c' := .string Y.name) (d' := .slice Y.at_.1 Y.args.length Y.at_.2) hN
  exact ⟨(h1.mono (fun _ _ e => .inl e)).trans (T.mono (fun _ _ e => .inr e)), ⟨X, (T.block N (Array.getElem?_eq_some_iff.1 x1).1 (by omega)).trans x1, LT.In.turned T (fun k _ hk e => hp (e ▸ hk)) (fun _ _ hk => hk) _ x2, x3⟩, Y, hs, LT.In.turned T (fun k _ hk e => hp (e ▸ hk)) (fun _ _ hk => hk) _ hYi, hYb⟩
end
theorem unify_one (l : Tm.Trail) (left : Nat) (x y : Tm Unit) : Tm.unify l (left + 1) [(x, y)] = (match Tm.oneU l left (Tm.walkT l x) (Tm.walkT l y) with | .more ps => Tm.unify l left ps | .done r => r) := by
  cases h : Tm.oneU l left (Tm.walkT l x) (Tm.walkT l y) with
  | more ps => rw [Tm.unify_more h, List.append_nil]
  | done r =>
    cases r with
    | ok l' q => rw [Tm.unify_ok h]; rfl
    | no q => rw [Tm.unify_no h]
    | over => rw [Tm.unify_over h]
def PairL (p : Nat → Prop) (wb : Nat) (O : Nat → Prop) (C m : Nat) (l : Tm.Trail) (c : Nat) (X Y : LT) (UN : Tm.UR) (W4 : World) (k : Nat) (i : Value) (wr : World) : Prop :=
  ∃ (j cj leftj : Nat) (lj a : Tm.Trail) (Oj : Nat → Prop), Hid (j + k = X.args.length) ∧ j ≤ X.args.length ∧ i = .int .i64 j ∧ Hid (DO p wb Oj m lj wr) ∧ Hid (∀ k, Oj k → k < W4.heap.size → O k) ∧ Hid (Turned (fun k => O k ∨ k = C) W4 wr) ∧ Hid (lj = a ++ l) ∧ Hid (wr.heap[C]? = some (.cells #[.int .i64 cj] 3 (0, 0))) ∧ Hid (cj + leftj = 2000 ∧ c + 1 ≤ cj) ∧ Hid (Tm.unify lj leftj ((X.bare.args.zip Y.bare.args).drop j) = UN)
theorem zip_at {X Y x y : LT} {j : Nat} (hx : X.args[j]? = some x) (hy : Y.args[j]? = some y) : (X.bare.args.zip Y.bare.args).drop j = (x.bare, y.bare) :: (X.bare.args.zip Y.bare.args).drop (j + 1) := by
  have h : (X.bare.args.zip Y.bare.args)[j]? = some (x.bare, y.bare) := by
    rw [List.getElem?_zip_eq_some, Tm.bare_args, Tm.bare_args, Tm.bares_eq, Tm.bares_eq, List.getElem?_map, List.getElem?_map, hx, hy]
    exact ⟨rfl, rfl⟩
  obtain ⟨h1, h2⟩ := List.getElem?_eq_some_iff.1 h
  rw [List.drop_eq_getElem_cons h1, h2]
theorem ownB_args {m : Nat} {X x : LT} (h : Tm.ownB m X.bare = true) (hk : ¬ X.kind = 0) (hx : x ∈ X.args) : Tm.ownB m x.bare = true :=
  Tm.ownB_arg h (by rw [Tm.bare_kind]; exact hk) (by rw [Tm.bare_args, Tm.bares_eq]; exact List.mem_map_of_mem hx)
section
variable {p O : Nat → Prop} {wb C m : Nat} {l : Tm.Trail} {w : World}
set_option maxRecDepth 100000 in
set_option maxHeartbeats 25600000 in
theorem pair156 (k : Nat) : ∀ (O : Nat → Prop) (l : Tm.Trail) (x y : LT) (c : Nat) (w : World), 2000 < c + k → c ≤ 2000 → DO p wb O m l w → x.In p w → Tm.ownB m x.bare = true → y.In p w → Tm.ownB m y.bare = true → w.heap[C]? = some (.cells #[.int .i64 c] 3 (0, 0)) → ¬ O C → ¬ p C →
    Calls Try.prog 156 #[.pointer (some ⟨wb, 0, none⟩), x.val, y.val, .pointer (some ⟨C, 0, none⟩)] w (PairQ p wb O C m l w (Tm.unify l (2000 - c) [(x.bare, y.bare)])) := by
  induction k with
  | zero => intro O l x y c w h1 h2; omega
  | succ k ih =>
  intro O l x y c w hk hc h hx gx hy gy hC hO hp
  have hCl := (Array.getElem?_eq_some_iff.1 hC).1
  have h2 := twoBox w (.cells #[.int .i64 x.kind, .int .i64 x.n, .string x.name, .slice x.at_.1 x.args.length x.at_.2] 41) (.cells #[.int .i64 y.kind, .int .i64 y.n, .string y.name, .slice y.at_.1 y.args.length y.at_.2] 41)
  obtain ⟨w2, hw2⟩ : ∃ z, z = (w.alloc (.cells #[.int .i64 x.kind, .int .i64 x.n, .string x.name, .slice x.at_.1 x.args.length x.at_.2] 41)).alloc (.cells #[.int .i64 y.kind, .int .i64 y.n, .string y.name, .slice y.at_.1 y.args.length y.at_.2] 41) := ⟨_, rfl⟩
  rw [← hw2] at h2
  have hbx : ∀ W, Turned (fun _ => False) w2 W → W.heap[w.heap.size]? = some (.cells #[.int .i64 x.kind, .int .i64 x.n, .string x.name, .slice x.at_.1 x.args.length x.at_.2] 41 (0, 0)) ∧ W.heap[w.heap.size + 1]? = some (.cells #[.int .i64 y.kind, .int .i64 y.n, .string y.name, .slice y.at_.1 y.args.length y.at_.2] 41 (0, 0)) := fun W hW => ⟨(hW.block _ (by have := h2.2.1; omega) (fun f => f)).trans h2.2.2.1, (hW.block _ (by have := h2.2.1; omega) (fun f => f)).trans h2.2.2.2⟩
  have hwx : ∀ W, Turned (fun _ => False) w2 W → Calls Try.prog 170 #[.pointer (some ⟨wb, 0, none⟩), x.val] W fun e w' => ∃ X : LT, e = .returned X.val ∧ X.In p w' ∧ X.bare = Tm.walkT l x.bare ∧ Turned (fun _ => False) W w' := fun W hW => walk170 (h.turned0 (h2.1.trans hW)) (hx.turned0 (h2.1.trans hW)) (Tm.good_ones' (Tm.ownB_iff.1 gx).1)
  have hwy : ∀ W, Turned (fun _ => False) w2 W → Calls Try.prog 170 #[.pointer (some ⟨wb, 0, none⟩), y.val] W fun e w' => ∃ X : LT, e = .returned X.val ∧ X.In p w' ∧ X.bare = Tm.walkT l y.bare ∧ Turned (fun _ => False) W w' := fun W hW => walk170 (h.turned0 (h2.1.trans hW)) (hy.turned0 (h2.1.trans hW)) (Tm.good_ones' (Tm.ownB_iff.1 gy).1)
  have wdx := Tm.walked h.ok _ x.bare (Nat.le_refl _) (Tm.good_ones' (Tm.ownB_iff.1 gx).1)
  have wdy := Tm.walked h.ok _ y.bare (Nat.le_refl _) (Tm.good_ones' (Tm.ownB_iff.1 gy).1)
  have owx := Tm.walkT_own h.ok _ x.bare (Nat.le_refl _) gx
  have owy := Tm.walkT_own h.ok _ y.bare (Nat.le_refl _) gy
  have hun := fun left1 => unify_one l left1 x.bare y.bare
  have hz := Tm.unify_zero l (x.bare, y.bare) []
  obtain ⟨X0, hX0⟩ : ∃ z, z = Tm.walkT l x.bare := ⟨_, rfl⟩
  obtain ⟨Y0, hY0⟩ : ∃ z, z = Tm.walkT l y.bare := ⟨_, rfl⟩
  rw [← hX0] at hwx wdx owx hun
  rw [← hY0] at hwy wdy owy hun
  obtain ⟨UN, hUN⟩ : ∃ z, z = Tm.unify l (2000 - c) [(x.bare, y.bare)] := ⟨_, rfl⟩
  rw [← hUN]
  rw [LT.val_eq] at hwx hwy ⊢
  rw [LT.val_eq y]
  have HWX := Lib.hid hwx
  have HWY := Lib.hid hwy
  have WDX := Lib.hid wdx
  have WDY := Lib.hid wdy
  have OWX := Lib.hid owx
  have OWY := Lib.hid owy
  have HBX := Lib.hid hbx
  have HW2 := Lib.hid hw2
  have HT2 := Lib.hid h2.1
  have HS2 := Lib.hid h2.2.1
  have HC2 : Hid (w2.heap[C]? = some (.cells #[.int .i64 c] 3 (0, 0))) := (h2.1.block C hCl (fun f => f)).trans hC
  have hKN : C ≠ w.heap.size := by omega
  have hKN1 : C ≠ w.heap.size + 1 := by omega
  have hNK : w.heap.size ≠ C := by omega
  have hNK1 : w.heap.size + 1 ≠ C := by omega
  have HH := Lib.hid h
  have HO := Lib.hid hO
  have HP := Lib.hid hp
  have HIH := Lib.hid ih
  have HK := Lib.hid hk
  have hm65 := h.most
  have hok0 := h.ok
  have HOK0 := Lib.hid hok0
  have HPN : Hid (¬ p w.heap.size ∧ ¬ p (w.heap.size + 1)) := ⟨fun e => Nat.lt_irrefl _ (h.plt _ e), fun e => by have := h.plt _ e; omega⟩
  have HON : Hid (¬ O w.heap.size ∧ ¬ O (w.heap.size + 1)) := ⟨fun e => Nat.lt_irrefl _ (h.lt _ e), fun e => by have := h.lt _ e; omega⟩
  have HUN := Lib.hid hUN
  have HU1 := Lib.hid hun
  have HZ := Lib.hid hz
  clear hX0 hY0 hwx hwy wdx wdy owx owy hbx hw2 h2 hx hy gx gy h hC hO hp ih hk hUN hun hz hCl hok0
  go_enter Try.func156, Try.ntmps156
  go_wp2_with fail
  rw [← HW2.out]
  refine wp_region_hsW [10, 11, 12, 13, 14, 15] [2, 5, 6, 7] [0, 0, 1, 1, 1, 2, 3, 4] [12, 15, 100006, 100007] (fun dd vv => (match dd with | 10 => vv = .pointer (some ⟨wb, 0, none⟩) | 11 => vv = .agg #[.int .i64 x.kind, .int .i64 x.n, .string x.name, .slice x.at_.1 x.args.length x.at_.2] | 13 => vv = .pointer (some ⟨wb, 0, none⟩) | 14 => vv = .agg #[.int .i64 y.kind, .int .i64 y.n, .string y.name, .slice y.at_.1 y.args.length y.at_.2] | _ => True : Prop)) (WkD p X0 Y0 w.heap.size w2) (by kernel_rfl) rfl (by kernel_rfl) (by kernel_rfl) (by kernel_rfl) (by kernel_rfl) (fun w h => h) (fun hs w w' h T => WkD.turned0 hs w w' h T) ?hs ?hQ
  case hs =>
    refine ⟨?s0, ?s1, ?s2, ?s3, ?s4, ?s5, ?s6, ?s7, trivial⟩
    case s0 =>
      refine fun hs hle => stepG_free [] [0] (by kernel_rfl) rfl ?_
      intro ac W hT hI hO
      have hle : hs.length ≤ 0 := hle
      have h0 : ac.tmps.getD 0 undef = .pointer (some ⟨wb, 0, none⟩) := hO 0 (by simp)
      show Brings Try.prog (fun vv w' => Turned (fun _ => False) W w' ∧ vv = .pointer (some ⟨wb, 0, none⟩)) _
      simp only [execOp, Act.eval, h0]
      go_simp
      try exact ⟨Turned.refl _ _, rfl⟩
    case s1 =>
      refine fun hs hle => stepG_free [] [5] (by kernel_rfl) rfl ?_
      intro ac W hT hI hO
      have hle : hs.length ≤ 0 := hle
      have h5 : ac.tmps.getD 5 undef = .pointer (some ⟨w.heap.size, 0, none⟩) := hO 5 (by simp)
      show Brings Try.prog (fun vv w' => Turned (fun _ => False) W w' ∧ vv = .agg #[.int .i64 x.kind, .int .i64 x.n, .string x.name, .slice x.at_.1 x.args.length x.at_.2]) _
      obtain ⟨c0, c1, c2, c3, _⟩ := cells4 (HBX.out W (WkD.early hs W (by omega) hT)).1
      simp only [execOp, Act.eval, h5]
      go_simp
      try exact ⟨Turned.refl _ _, rfl⟩
    case s2 =>
      refine fun hs hlen => stepG_free [10, 11] [] (by kernel_rfl) rfl ?_
      intro ac W hT hI hO
      have h10 : ac.tmps.getD 10 undef = .pointer (some ⟨wb, 0, none⟩) := hI 10 (by simp)
      have h11 : ac.tmps.getD 11 undef = .agg #[.int .i64 x.kind, .int .i64 x.n, .string x.name, .slice x.at_.1 x.args.length x.at_.2] := hI 11 (by simp)
      obtain rfl : hs = [] := List.eq_nil_of_length_eq_zero hlen
      replace hT : Turned (fun _ => False) w2 W := hT
      show Brings Try.prog (fun vv w' => WkD p X0 Y0 w.heap.size w2 [vv] w') _
      simp only [execOp, Act.eval, h10, h11]
      go_simp
      show Calls Try.prog 170 _ W _
      (with_reducible refine (HWX.out W hT).mono ?_)
      rintro e w' ⟨X, rfl, g1, g2, T'⟩
      exact ⟨_, rfl, hT.trans T', X, by rw [LT.val_eq], g1, g2⟩
    case s3 =>
      refine fun hs hle => stepG_free [] [0] (by kernel_rfl) rfl ?_
      intro ac W hT hI hO
      have hle : hs.length ≤ 1 := hle
      have h0 : ac.tmps.getD 0 undef = .pointer (some ⟨wb, 0, none⟩) := hO 0 (by simp)
      show Brings Try.prog (fun vv w' => Turned (fun _ => False) W w' ∧ vv = .pointer (some ⟨wb, 0, none⟩)) _
      simp only [execOp, Act.eval, h0]
      go_simp
      try exact ⟨Turned.refl _ _, rfl⟩
    case s4 =>
      refine fun hs hle => stepG_free [] [6] (by kernel_rfl) rfl ?_
      intro ac W hT hI hO
      have hle : hs.length ≤ 1 := hle
      have h6 : ac.tmps.getD 6 undef = .pointer (some ⟨w.heap.size + 1, 0, none⟩) := hO 6 (by simp)
      show Brings Try.prog (fun vv w' => Turned (fun _ => False) W w' ∧ vv = .agg #[.int .i64 y.kind, .int .i64 y.n, .string y.name, .slice y.at_.1 y.args.length y.at_.2]) _
      obtain ⟨c0, c1, c2, c3, _⟩ := cells4 (HBX.out W (WkD.early hs W (by omega) hT)).2
      simp only [execOp, Act.eval, h6]
      go_simp
      try exact ⟨Turned.refl _ _, rfl⟩
    case s5 =>
      refine fun hs hlen => stepG_free [13, 14] [] (by kernel_rfl) rfl ?_
      intro ac W hT hI hO
      have h13 : ac.tmps.getD 13 undef = .pointer (some ⟨wb, 0, none⟩) := hI 13 (by simp)
      have h14 : ac.tmps.getD 14 undef = .agg #[.int .i64 y.kind, .int .i64 y.n, .string y.name, .slice y.at_.1 y.args.length y.at_.2] := hI 14 (by simp)
      obtain ⟨a, rfl⟩ := List.length_eq_one_iff.1 hlen
      obtain ⟨hT1, X, x1, x2, x3⟩ := hT
      show Brings Try.prog (fun vv w' => WkD p X0 Y0 w.heap.size w2 [a, vv] w') _
      simp only [execOp, Act.eval, h13, h14]
      go_simp
      show Calls Try.prog 170 _ W _
      (with_reducible refine (HWY.out W hT1).mono ?_)
      rintro e w' ⟨Y, rfl, g1, g2, T'⟩
      exact ⟨_, rfl, hT1.trans T', ⟨X, by first | rfl | exact x1, x2.turned0 T', x3⟩, Y, by rw [LT.val_eq], g1, g2⟩
    case s6 =>
      refine fun hs hlen => stepG_free [12] [5] (by kernel_rfl) rfl ?_
      intro ac W hT hI hO
      have h12 : hs[0]? = some (ac.tmps.getD 12 undef) := hI 12 (by simp)
      have h5 : ac.tmps.getD 5 undef = .pointer (some ⟨w.heap.size, 0, none⟩) := hO 5 (by simp)
      obtain ⟨a, b, rfl⟩ := list2' hlen
      have e12 : a = ac.tmps.getD 12 undef := by simpa using h12
      have hbW := (HBX.out W hT.1).1
      obtain ⟨c0, c1, c2, c3, f0, f1, f2, f3⟩ := cells4 hbW
      obtain ⟨X, x1, x2, x3⟩ := hT.2.1
      have HST := Lib.hid (fun q => WkD.store1 (q := q) hT x1 x2 x3 ⟨_, _, _, _, hbW⟩ HPN.out.1)
      show Brings Try.prog (fun vv w' => WkD p X0 Y0 w.heap.size w2 [a, b, vv] w') _
      rw [e12] at x1
      simp only [execOp, Act.eval, h5, x1]
      clear hbW hT x2 x3 e12 x1
      go_simp
      exact HST.out undef
    case s7 =>
      refine fun hs hlen => stepG_free [15] [6] (by kernel_rfl) rfl ?_
      intro ac W hT hI hO
      have h15 : hs[1]? = some (ac.tmps.getD 15 undef) := hI 15 (by simp)
      have h6 : ac.tmps.getD 6 undef = .pointer (some ⟨w.heap.size + 1, 0, none⟩) := hO 6 (by simp)
      obtain ⟨a, b, cc, rfl⟩ := list3' hlen
      have e15 : b = ac.tmps.getD 15 undef := by simpa using h15
      have hbW : W.heap[w.heap.size + 1]? = some (.cells #[.int .i64 y.kind, .int .i64 y.n, .string y.name, .slice y.at_.1 y.args.length y.at_.2] 41 (0, 0)) := (hT.1.block _ (by have := HS2.out; omega) (by omega)).trans (HBX.out w2 (Turned.refl _ _)).2
      obtain ⟨c0, c1, c2, c3, f0, f1, f2, f3⟩ := cells4 hbW
      obtain ⟨Y, y1, y2, y3⟩ := hT.2.2
      have HST := Lib.hid (fun q => WkD.store2 (q := q) hT y2 y3 ⟨_, _, _, _, hbW⟩ HPN.out.2)
      show Brings Try.prog (fun vv w' => WkD p X0 Y0 w.heap.size w2 [a, b, cc, vv] w') _
      rw [e15] at y1
      simp only [execOp, Act.eval, h6, y1]
      clear hbW hT y2 y3 e15 y1
      go_simp
      exact HST.out undef
  case hQ =>
    intro hs vs w3 hlen hR hV
    simp only [List.foldl_cons, List.foldl_nil, List.setIfInBounds_toArray, List.set_cons_zero, List.set_cons_succ]
    obtain ⟨e1, e2, e3, e4, rfl⟩ := list4' hlen
    obtain ⟨T3, ⟨X, hbx, hxi, rfl⟩, Y, hby, hyi, rfl⟩ := hR
    have HT3 := Lib.hid (HT2.out.step T3 (fun i hi e => by omega))
    have hC3 : w3.heap[C]? = some (.cells #[.int .i64 c] 3 (0, 0)) := (T3.block C (Array.getElem?_eq_some_iff.1 HC2.out).1 (fun e => by omega)).trans HC2.out
    have HXB := Lib.hid hbx
    have HYB := Lib.hid hby
    have HXI := Lib.hid hxi
    have HYI := Lib.hid hyi
    have HC3 := Lib.hid hC3
    have T4 : Turned (fun k => k = C) w3 (w3.setCell ⟨C, 0, none⟩ (.int .i64 ((c : Int) + 1))) := (Turned.refl (fun k => k = C) w3).setCell (p := ⟨C, 0, none⟩) (.inr rfl) _
    have HT4 := Lib.hid ((HT3.out.mono (fun _ _ f => f.elim) : Turned (fun k => k = C) w w3).trans T4)
    have HC4 : Hid ((w3.setCell ⟨C, 0, none⟩ (.int .i64 ((c : Int) + 1))).heap[C]? = some (.cells #[.int .i64 ((c + 1 : Nat) : Int)] 3 (0, 0))) := Lib.hid (int1_set (v' := .int .i64 ((c : Int) + 1)) hC3)
    have HXB4 := Lib.hid ((T4.block _ (Array.getElem?_eq_some_iff.1 hbx).1 hNK).trans hbx)
    have HYB4 := Lib.hid ((T4.block _ (Array.getElem?_eq_some_iff.1 hby).1 hNK1).trans hby)
    have HXI4 := Lib.hid (LT.In.turned T4 (fun k _ hk e => HP.out (e ▸ hk)) (fun _ _ q => q) _ hxi)
    have HYI4 := Lib.hid (LT.In.turned T4 (fun k _ hk e => HP.out (e ▸ hk)) (fun _ _ q => q) _ hyi)
    have HD4 := Lib.hid (HH.out.turned HT4.out (fun k hk e => ⟨fun o => HO.out (e ▸ o), fun o => HP.out (e ▸ o)⟩))
    obtain ⟨c0, c1, c2, c3, f0, f1, f2, f3⟩ := cells4 hbx
    obtain ⟨d0, d1, d2, d3, g0, g1, g2, g3⟩ := cells4 hby
    obtain ⟨k0, k1⟩ := int1 hC3
    clear T3 hbx hby hxi hyi hlen hV hC3 T4
    have hok := HOK0.out
    by_cases hc2 : c = 2000
    · have d1 : decide ((2000 : Int) < (c : Int) + 1) = true := decide_eq_true (by omega)
      have hz := HZ.out
      have HE : Hid (UN = .over) := by show _ = _; rw [HUN.out, hc2]; exact hz
      have HC20 := Lib.hid hc2
      clear hok hz hc2
      go_wp2_with fail
      go_ret
      rw [HE.out]
      exact ⟨rfl, [], c + 1, PairA.same HH.out HO.out HP.out HT4.out, HC4.out, by have := HC20.out; omega, by omega⟩
    · have d1 : decide ((2000 : Int) < (c : Int) + 1) = false := decide_eq_false (by omega)
      obtain ⟨left1, hl1⟩ : ∃ q, q = 2000 - (c + 1) := ⟨_, rfl⟩
      have hcl : c + 1 + left1 = 2000 := by omega
      have hUU : UN = (match Tm.oneU l left1 X.bare Y.bare with | .more ps => Tm.unify l left1 ps | .done r => r) := by
        rw [HUN.out, show 2000 - c = left1 + 1 by omega]
        exact HU1.out left1
      clear hc2 hl1
      obtain ⟨U, hU⟩ : ∃ z, z = Tm.oneU l left1 X.bare Y.bare := ⟨_, rfl⟩
      rw [← hU] at hUU
      have HUU := Lib.hid hUU
      have HU := Lib.hid hU
      clear hUU hU
      by_cases hxk : X.kind = 0
      · have vX := Tm.ownB_var OWX.out (by rw [Tm.bare_kind]; exact hxk)
        have fX := WDX.out.free (by rw [Tm.bare_kind]; exact hxk)
        rw [Tm.bare_n] at vX fX
        have bx : (X.kind == 0) = true := by simp [hxk]
        by_cases hyk : Y.kind = 0
        · have vY := Tm.ownB_var OWY.out (by rw [Tm.bare_kind]; exact hyk)
          have fY := WDY.out.free (by rw [Tm.bare_kind]; exact hyk)
          rw [Tm.bare_n] at vY fY
          have by_ : (Y.kind == 0) = true := by simp [hyk]
          by_cases hn : X.n = Y.n
          · have b1 : decide (Y.n < X.n) = false := decide_eq_false (by omega)
            have b2 : decide (X.n < Y.n) = false := decide_eq_false (by omega)
            have HE : Hid (UN = .ok l left1) := by show _ = _; rw [HUU.out, HU.out.trans (oneU_same hxk hyk hn)]
            clear hxk hyk hn vX vY fX fY hok
            go_wp2_with fail
            go_ret
            rw [HE.out]
            exact ⟨rfl, PairA.same HH.out HO.out HP.out HT4.out, c + 1, HC4.out, hcl⟩
          · by_cases hlt : X.n < Y.n
            · have b1 : decide (Y.n < X.n) = false := decide_eq_false (by omega)
              have b2 : decide (X.n < Y.n) = true := decide_eq_true hlt
              have HE : Hid (UN = .ok ((Y.n, X.bare) :: l) left1) := by
                show _ = _
                rw [HUU.out, HU.out.trans (oneU_vars hxk hyk hn), Int.max_eq_right (by omega), Int.min_eq_left (by omega), vX.2.2]
              have hE := Tm.setE_ok hok (setE_vars hok hm65 vY.1 vY.2.1 vX.1 vX.2.1 fY fX (fun e => hn e.symm))
              rw [← vX.2.2] at hE
              have hbd := bindD HD4.out HXI4.out hE
              rw [LT.val_eq] at hbd
              have HBD := Lib.hid hbd
              clear hxk hyk hn hlt vX vY fX fY hok hE hbd
              go_wp2_with (go_at_call 175; (with_reducible refine HBD.out.mono ?_); rintro e w5 ⟨rfl, ha⟩; have HA := Lib.hid ha; clear ha)
              go_ret
              rw [HE.out]
              obtain ⟨O', a1, a2, a3⟩ := HA.out
              exact ⟨rfl, PairA.of HT4.out HA.out, c + 1, (a3.block C (Array.getElem?_eq_some_iff.1 HC4.out).1 HO.out).trans HC4.out, hcl⟩
            · have hgt : Y.n < X.n := by omega
              have b1 : decide (Y.n < X.n) = true := decide_eq_true hgt
              have HE : Hid (UN = .ok ((X.n, Y.bare) :: l) left1) := by
                show _ = _
                rw [HUU.out, HU.out.trans (oneU_vars hxk hyk hn), Int.max_eq_left (by omega), Int.min_eq_right (by omega), vY.2.2]
              have hE := Tm.setE_ok hok (setE_vars hok hm65 vX.1 vX.2.1 vY.1 vY.2.1 fX fY hn)
              rw [← vY.2.2] at hE
              have hbd := bindD HD4.out HYI4.out hE
              rw [LT.val_eq] at hbd
              have HBD := Lib.hid hbd
              clear hxk hyk hn hlt hgt vX vY fX fY hok hE hbd
              go_wp2_with (go_at_call 175; (with_reducible refine HBD.out.mono ?_); rintro e w5 ⟨rfl, ha⟩; have HA := Lib.hid ha; clear ha)
              go_ret
              rw [HE.out]
              obtain ⟨O', a1, a2, a3⟩ := HA.out
              exact ⟨rfl, PairA.of HT4.out HA.out, c + 1, (a3.block C (Array.getElem?_eq_some_iff.1 HC4.out).1 HO.out).trans HC4.out, hcl⟩
        · have by_ : (Y.kind == 0) = false := by simp [hyk]
          have HE : Hid (UN = Tm.tieU l left1 X.n Y.bare) := by show _ = _; rw [HUU.out, HU.out.trans (oneU_left hxk hyk)]
          have hti := stands176 HD4.out (by omega) HYI4.out OWY.out hyk vX.1 vX.2.1 fX HC4.out HO.out HP.out
          rw [show 2000 - (c + 1) = left1 by omega, ← HE.out, LT.val_eq] at hti
          have HTI := Lib.hid hti
          clear hxk hyk vX fX hok hti HE
          clear HUN HUU
          cases UN with
          | ok l' left' =>
            go_wp2_with (go_at_call 176; (with_reducible refine HTI.out.mono ?_); rintro e w5 ⟨rfl, h5⟩; have H5 := Lib.hid h5; clear h5)
            go_ret
            exact PairQ.from (a := []) rfl (HT4.out.mono (fun _ _ e => .inr e)) (fun k hk _ => hk) ⟨rfl, H5.out⟩
          | no q =>
            go_wp2_with (go_at_call 176; (with_reducible refine HTI.out.mono ?_); rintro e w5 ⟨rfl, h5⟩; have H5 := Lib.hid h5; clear h5)
            go_ret
            exact PairQ.from (a := []) rfl (HT4.out.mono (fun _ _ e => .inr e)) (fun k hk _ => hk) ⟨rfl, H5.out⟩
          | over =>
            go_wp2_with (go_at_call 176; (with_reducible refine HTI.out.mono ?_); rintro e w5 ⟨rfl, h5⟩; have H5 := Lib.hid h5; clear h5)
            go_ret
            exact PairQ.from (a := []) rfl (HT4.out.mono (fun _ _ e => .inr e)) (fun k hk _ => hk) ⟨rfl, H5.out⟩
      · have bx : (X.kind == 0) = false := by simp [hxk]
        by_cases hyk : Y.kind = 0
        · have vY := Tm.ownB_var OWY.out (by rw [Tm.bare_kind]; exact hyk)
          have fY := WDY.out.free (by rw [Tm.bare_kind]; exact hyk)
          rw [Tm.bare_n] at vY fY
          have by_ : (Y.kind == 0) = true := by simp [hyk]
          have HE : Hid (UN = Tm.tieU l left1 Y.n X.bare) := by show _ = _; rw [HUU.out, HU.out.trans (oneU_right hxk hyk)]
          have hti := stands176 HD4.out (by omega) HXI4.out OWX.out hxk vY.1 vY.2.1 fY HC4.out HO.out HP.out
          rw [show 2000 - (c + 1) = left1 by omega, ← HE.out, LT.val_eq] at hti
          have HTI := Lib.hid hti
          clear hxk hyk vY fY hok hti HE
          clear HUN HUU
          cases UN with
          | ok l' left' =>
            go_wp2_with (go_at_call 176; (with_reducible refine HTI.out.mono ?_); rintro e w5 ⟨rfl, h5⟩; have H5 := Lib.hid h5; clear h5)
            go_ret
            exact PairQ.from (a := []) rfl (HT4.out.mono (fun _ _ e => .inr e)) (fun k hk _ => hk) ⟨rfl, H5.out⟩
          | no q =>
            go_wp2_with (go_at_call 176; (with_reducible refine HTI.out.mono ?_); rintro e w5 ⟨rfl, h5⟩; have H5 := Lib.hid h5; clear h5)
            go_ret
            exact PairQ.from (a := []) rfl (HT4.out.mono (fun _ _ e => .inr e)) (fun k hk _ => hk) ⟨rfl, H5.out⟩
          | over =>
            go_wp2_with (go_at_call 176; (with_reducible refine HTI.out.mono ?_); rintro e w5 ⟨rfl, h5⟩; have H5 := Lib.hid h5; clear h5)
            go_ret
            exact PairQ.from (a := []) rfl (HT4.out.mono (fun _ _ e => .inr e)) (fun k hk _ => hk) ⟨rfl, H5.out⟩
        · have by_ : (Y.kind == 0) = false := by simp [hyk]
          have HE := Lib.hid (HU.out.trans (oneU_heads hxk hyk))
          have HXK := Lib.hid hxk
          have HYK := Lib.hid hyk
          clear hxk hyk hok
          by_cases h1 : X.kind = Y.kind
          · have t1 : (X.kind != Y.kind) = false := by simp [h1]
            by_cases h2 : X.n = Y.n
            · have t2 : (X.n != Y.n) = false := by simp [h2]
              by_cases h3 : X.name = Y.name
              · have t3 : (X.name.toList != Y.name.toList) = false := by simp [h3]
                have t3' : (X.name.toList == Y.name.toList) = true := by simp [h3]
                by_cases h4 : X.args.length = Y.args.length
                · have t4 : ((X.args.length : Int) != (Y.args.length : Int)) = false := by simp [h4]
                  have HE2 : Hid (UN = Tm.unify l left1 (X.bare.args.zip Y.bare.args)) := by show _ = _; rw [HUU.out, HE.out, if_pos ⟨h1, h2, h3, h4⟩]
                  have HL4 := Lib.hid h4
                  clear h1 h2 h3 h4
                  go_wp2_with fail
                  revert HC4 HXB4 HYB4 HXI4 HYI4 HD4 HT4
                  clear HXB HYB HXI HYI HC3 HUU HU HE HT3 HU1 HZ
                  generalize (w3.setCell ⟨C, 0, none⟩ (.int .i64 ((c : Int) + 1))) = W4
                  intro HT4 HC4 HXB4 HYB4 HXI4 HYI4 HD4
                  clear c0 c1 c2 c3 f0 f1 f2 f3 d0 d1 d2 d3 g0 g1 g2 g3 k0 k1
                  go_loopg [9] X.args.length (fun q i wr => PairL p wb O C m l c X Y UN W4 q i wr)
                  case atStart => exact ⟨0, c + 1, left1, l, [], O, Nat.zero_add _, Nat.zero_le _, rfl, HD4.out, fun _ h _ => h, Turned.refl _ _, rfl, HC4.out, show _ ∧ _ from ⟨hcl, Nat.le_refl _⟩, HE2.out.symm⟩
                  case round =>
                    obtain ⟨j, cj, leftj, lj, a, Oj, HG, hj, rfl, HDJ, HOJ, HTJ, HLJ, HCJ, HLE, HUJ⟩ := hrel
                    have hxb := (HTJ.out.block _ (Array.getElem?_eq_some_iff.1 HXB4.out).1 (fun e => e.elim HON.out.1 hNK)).trans HXB4.out
                    have hyb := (HTJ.out.block _ (Array.getElem?_eq_some_iff.1 HYB4.out).1 (fun e => e.elim HON.out.2 hNK1)).trans HYB4.out
                    obtain ⟨c0, c1, c2, c3, _⟩ := cells4 hxb
                    obtain ⟨d0, d1, d2, d3, _⟩ := cells4 hyb
                    clear hxb hyb
                    by_cases hjl : j < X.args.length
                    · obtain ⟨xj, hx⟩ : ∃ z : LT, X.args[j]? = some z := ⟨_, List.getElem?_eq_getElem hjl⟩
                      have hjy : j < Y.args.length := by have := HL4.out; omega
                      obtain ⟨yj, hy⟩ : ∃ z : LT, Y.args[j]? = some z := ⟨_, List.getElem?_eq_getElem hjy⟩
                      have hXw : X.In p wr := LT.In.turned HTJ.out (fun k _ hk e => e.elim (fun e => HH.out.sep k hk e) (fun e => HP.out (e ▸ hk))) (fun _ _ q => q) _ HXI4.out
                      have hYw : Y.In p wr := LT.In.turned HTJ.out (fun k _ hk e => e.elim (fun e => HH.out.sep k hk e) (fun e => HP.out (e ▸ hk))) (fun _ _ q => q) _ HYI4.out
                      obtain ⟨bX, oX, hbX, _, x0, x1, x2, x3⟩ := hXw.lies.cell hx
                      obtain ⟨bY, oY, hbY, _, y0, y1, y2, y3⟩ := hYw.lies.cell hy
                      have hOC : ¬ Oj C := fun o => HO.out (HOJ.out C o (Array.getElem?_eq_some_iff.1 HC4.out).1)
                      have Td : Turned (fun _ => False) wr wr.drew := (Turned.refl _ wr).drew
                      have hcy := HIH.out Oj lj xj yj cj wr.drew (by have := HK.out; have := HLE.out.2; omega) (by have := HLE.out.1; omega) (HDJ.out.turned0 Td) (((LT.ins_iff _).1 hXw.args xj (List.mem_of_getElem? hx)).turned0 Td) (ownB_args OWX.out HXK.out (List.mem_of_getElem? hx)) (((LT.ins_iff _).1 hYw.args yj (List.mem_of_getElem? hy)).turned0 Td) (ownB_args OWY.out HYK.out (List.mem_of_getElem? hy)) ((Td.block C (Array.getElem?_eq_some_iff.1 HCJ.out).1 (fun f => f)).trans HCJ.out) hOC HP.out
                      have hul := Tm.unify_left leftj leftj (Nat.le_refl _) lj [(xj.bare, yj.bare)]
                      have huj := HUJ.out
                      rw [zip_at hx hy, Tm.unify_cons] at huj
                      rw [show 2000 - cj = leftj by have := HLE.out.1; omega, LT.val_eq, LT.val_eq] at hcy
                      obtain ⟨V, hV⟩ : ∃ z, z = Tm.unify lj leftj [(xj.bare, yj.bare)] := ⟨_, rfl⟩
                      rw [← hV] at hcy huj hul
                      have HUJ2 := Lib.hid huj
                      have HUL := Lib.hid hul
                      have HCY := Lib.hid hcy
                      have HTW : Hid (Turned (fun k => O k ∨ k = C) w wr.drew) := Lib.hid ((HT4.out.mono (fun _ _ e => .inr e) : Turned (fun k => O k ∨ k = C) w W4).trans HTJ.out).drew
                      have HOW : Hid (∀ k, Oj k → k < w.heap.size → O k) := fun k hk hl => HOJ.out k hk (Nat.lt_of_lt_of_le hl HT4.out.size)
                      rw [hbX] at c3
                      rw [hbY] at d3
                      have hXl := hXw.len
                      have hYl := hYw.len
                      have hXa : X.args.length ≤ 9223372036854775807 := by have := hXl.1; have := hXl.2.1; unfold maxLen at this; omega
                      have hYa : Y.args.length ≤ 9223372036854775807 := by have := hYl.1; have := hYl.2.1; unfold maxLen at this; omega
                      have dj : decide ((j : Int) < (X.args.length : Int)) = true := decide_eq_true (by omega)
                      clear hx hy hXw hYw hbX hbY hcy hul huj hV hXl hYl hOC Td
                      cases V with
                      | ok l' left' =>
                        go_wp2_with fail
                        refine region_tail 12 (by kernel_rfl) (by kernel_rfl) ?_
                        simp only [List.take_succ_cons, List.take_zero, List.drop_succ_cons, List.drop_zero]
                        repeat still_step
                        refine wpStill_nil ?_
                        go_wp2_with (go_at_call 156; (with_reducible refine HCY.out.mono ?_); rintro e w5 ⟨rfl, h5⟩; have H5 := Lib.hid h5; clear h5)
                        go_roundg (gk - 1)
                        case measure => have := HG.out; omega
                        case rel =>
                          obtain ⟨⟨O', a1, a2, a3⟩, c', g1, g2⟩ := H5.out
                          obtain ⟨u1, u2, ae, u3⟩ := HUL.out
                          have u2' := u2 (by simp)
                          exact ⟨j + 1, c', left', l', ae ++ a, O', show _ = _ by have := HG.out; omega, by omega, by go_num, a1, fun k hk hl => HOJ.out k (a2 k hk (Nat.lt_of_lt_of_le hl HTJ.out.size)) hl, HTJ.out.drew.step a3 (fun i hi e => e.elim (fun e => .inl (HOJ.out i e hi)) .inr), (by show _ = _; rw [u3, HLJ.out, List.append_assoc]), g1, show _ ∧ _ from ⟨g2, by have := HLE.out; omega⟩, HUJ2.out⟩
                      | no q =>
                        have HV : Hid (UN = .no q) := HUJ2.out.symm
                        go_wp2_with fail
                        refine region_tail 12 (by kernel_rfl) (by kernel_rfl) ?_
                        simp only [List.take_succ_cons, List.take_zero, List.drop_succ_cons, List.drop_zero]
                        repeat still_step
                        refine wpStill_nil ?_
                        go_wp2_with (go_at_call 156; (with_reducible refine HCY.out.mono ?_); rintro e w5 ⟨rfl, h5⟩; have H5 := Lib.hid h5; clear h5)
                        go_ret
                        rw [HV.out]
                        exact PairQ.from (r := .no q) HLJ.out HTW.out HOW.out ⟨rfl, H5.out⟩
                      | over =>
                        have HV : Hid (UN = .over) := HUJ2.out.symm
                        go_wp2_with fail
                        refine region_tail 12 (by kernel_rfl) (by kernel_rfl) ?_
                        simp only [List.take_succ_cons, List.take_zero, List.drop_succ_cons, List.drop_zero]
                        repeat still_step
                        refine wpStill_nil ?_
                        go_wp2_with (go_at_call 156; (with_reducible refine HCY.out.mono ?_); rintro e w5 ⟨rfl, h5⟩; have H5 := Lib.hid h5; clear h5)
                        go_ret
                        rw [HV.out]
                        exact PairQ.from (r := .over) HLJ.out HTW.out HOW.out ⟨rfl, H5.out⟩
                    · obtain rfl : j = X.args.length := by omega
                      have dj : decide ((X.args.length : Int) < (X.args.length : Int)) = false := decide_eq_false (by omega)
                      have hz : (X.bare.args.zip Y.bare.args).drop X.args.length = [] := List.drop_eq_nil_of_le (by
                        rw [List.length_zip, Tm.bare_arity, Tm.bare_arity]; omega)
                      have HV : Hid (UN = .ok lj leftj) := by
                        show _ = _
                        rw [← HUJ.out, hz]
                        rfl
                      have HTW : Hid (Turned (fun k => O k ∨ k = C) w wr) := Lib.hid ((HT4.out.mono (fun _ _ e => .inr e) : Turned (fun k => O k ∨ k = C) w W4).trans HTJ.out)
                      have HOW : Hid (∀ k, Oj k → k < w.heap.size → O k) := fun k hk hl => HOJ.out k hk (Nat.lt_of_lt_of_le hl HT4.out.size)
                      clear hz
                      go_wp2_with fail
                      go_ret
                      rw [HV.out]
                      exact ⟨rfl, ⟨Oj, HDJ.out, HOW.out, HTW.out⟩, cj, HCJ.out, HLE.out.1⟩
                · have t4 : ((X.args.length : Int) != (Y.args.length : Int)) = true := by simp; omega
                  have HE2 : Hid (UN = .no left1) := by show _ = _; rw [HUU.out, HE.out, if_neg (fun e => h4 e.2.2.2)]
                  clear h1 h2 h3 h4
                  go_wp2_with fail
                  go_ret
                  rw [HE2.out]
                  exact ⟨rfl, [], c + 1, PairA.same HH.out HO.out HP.out HT4.out, HC4.out, hcl⟩
              · have t3 : (X.name.toList != Y.name.toList) = true := by rw [bne, str_neq h3]; rfl
                have t3' : (X.name.toList == Y.name.toList) = false := str_neq h3
                have HE2 : Hid (UN = .no left1) := by show _ = _; rw [HUU.out, HE.out, if_neg (fun e => h3 e.2.2.1)]
                clear h1 h2 h3
                go_wp2_with fail
                go_ret
                rw [HE2.out]
                exact ⟨rfl, [], c + 1, PairA.same HH.out HO.out HP.out HT4.out, HC4.out, hcl⟩
            · have t2 : (X.n != Y.n) = true := by simp [h2]
              have HE2 : Hid (UN = .no left1) := by show _ = _; rw [HUU.out, HE.out, if_neg (fun e => h2 e.2.1)]
              clear h1 h2
              go_wp2_with fail
              go_ret
              rw [HE2.out]
              exact ⟨rfl, [], c + 1, PairA.same HH.out HO.out HP.out HT4.out, HC4.out, hcl⟩
          · have t1 : (X.kind != Y.kind) = true := by simp [h1]
            have HE2 : Hid (UN = .no left1) := by show _ = _; rw [HUU.out, HE.out, if_neg (fun e => h1 e.1)]
            clear h1
            go_wp2_with fail
            go_ret
            rw [HE2.out]
            exact ⟨rfl, [], c + 1, PairA.same HH.out HO.out HP.out HT4.out, HC4.out, hcl⟩
end
end Go.Proofs.Ytoihjobdfjajfaa
namespace Go.Proofs.Ytoihjobdfjajfaa
open Go.RowKit Go.Maps
set_option linter.unusedVariables false
set_option linter.unusedSimpArgs false
def pairsT (st : List PT) : List (Tm Unit × Tm Unit) := st.reverse.map fun q => (q.1.bare, q.2.bare)
theorem pairsT_snoc (ss : List PT) (q : PT) : pairsT (ss ++ [q]) = (q.1.bare, q.2.bare) :: pairsT ss := by unfold pairsT; rw [List.reverse_append]; rfl
theorem pairsT_args (ss qs : List PT) : pairsT (ss ++ qs.reverse) = qs.map (fun q => (q.1.bare, q.2.bare)) ++ pairsT ss := by
  unfold pairsT; rw [List.reverse_append, List.reverse_reverse, List.map_append]
theorem PT.flat_at {l : List PT} {i : Nat} {q : PT} (h : l[i]? = some q) (j : Nat) (hj : j < 8) : (l.flatMap PT.cells)[i * 8 + j]? = (PT.cells q)[j]? := by
  induction l generalizing i with
  | nil => simp at h
  | cons y l ih =>
    rw [List.flatMap_cons]
    cases i with
    | zero =>
      simp at h; subst h
      rw [List.getElem?_append_left (by rw [PT.cells_length]; omega), Nat.zero_mul, Nat.zero_add]
    | succ i =>
      simp at h
      rw [List.getElem?_append_right (by rw [PT.cells_length]; omega), PT.cells_length]
      have : (i + 1) * 8 + j - 8 = i * 8 + j := by omega
      rw [this]
      exact ih h
theorem PT.cells_eq (q : PT) : PT.cells q = [.int .i64 q.1.kind, .int .i64 q.1.n, .string q.1.name, .slice q.1.at_.1 q.1.args.length q.1.at_.2, .int .i64 q.2.kind, .int .i64 q.2.n, .string q.2.name, .slice q.2.at_.1 q.2.args.length q.2.at_.2] := by unfold PT.cells; rw [LT.cells_eq, LT.cells_eq]; rfl
theorem turned8 (W : World) (B : Nat) (a b c d e f g h : Value) : Turned (fun k => k = B) W ((((((((W.setCell ⟨B, 0, none⟩ a).setCell ⟨B, 1, none⟩ b).setCell ⟨B, 2, none⟩ c).setCell ⟨B, 3, none⟩ d).setCell ⟨B, 4, none⟩ e).setCell ⟨B, 5, none⟩ f).setCell ⟨B, 6, none⟩ g).setCell ⟨B, 7, none⟩ h) :=
  ((((((((Turned.refl (fun k => k = B) W).setCell (p := ⟨B, 0, none⟩) (.inr rfl) _).setCell (p := ⟨B, 1, none⟩) (.inr rfl) _).setCell (p := ⟨B, 2, none⟩) (.inr rfl) _).setCell (p := ⟨B, 3, none⟩) (.inr rfl) _).setCell (p := ⟨B, 4, none⟩) (.inr rfl) _).setCell (p := ⟨B, 5, none⟩) (.inr rfl) _).setCell (p := ⟨B, 6, none⟩) (.inr rfl) _).setCell (p := ⟨B, 7, none⟩) (.inr rfl) _
theorem set8 {W : World} {B : Nat} {T : TypeId} {a b c d e f g h a' b' c' d' e' f' g' h' : Value} (hb : W.heap[B]? = some (.cells #[a, b, c, d, e, f, g, h] T (0, 0))) :
    ((((((((W.setCell ⟨B, 0, none⟩ a').setCell ⟨B, 1, none⟩ b').setCell ⟨B, 2, none⟩ c').setCell ⟨B, 3, none⟩ d').setCell ⟨B, 4, none⟩ e').setCell ⟨B, 5, none⟩ f').setCell ⟨B, 6, none⟩ g').setCell ⟨B, 7, none⟩ h').heap[B]? = some (.cells #[a', b', c', d', e', f', g', h'] T (0, 0)) := by
  have h0 := heap_setCell_same W B 0 _ T a' hb
  have h1 := heap_setCell_same _ B 1 _ T b' h0
  have h2 := heap_setCell_same _ B 2 _ T c' h1
  have h3 := heap_setCell_same _ B 3 _ T d' h2
  have h4 := heap_setCell_same _ B 4 _ T e' h3
  have h5 := heap_setCell_same _ B 5 _ T f' h4
  have h6 := heap_setCell_same _ B 6 _ T g' h5
  have h7 := heap_setCell_same _ B 7 _ T h' h6
  simpa using h7
theorem cells8 {W : World} {B : Nat} {T : TypeId} {a b c d e f g h : Value} (hb : W.heap[B]? = some (.cells #[a, b, c, d, e, f, g, h] T (0, 0))) :
    (W.cell? ⟨B, 0, none⟩ = some a ∧ W.cell? ⟨B, 1, none⟩ = some b ∧ W.cell? ⟨B, 2, none⟩ = some c ∧ W.cell? ⟨B, 3, none⟩ = some d ∧ W.cell? ⟨B, 4, none⟩ = some e ∧ W.cell? ⟨B, 5, none⟩ = some f ∧ W.cell? ⟨B, 6, none⟩ = some g ∧ W.cell? ⟨B, 7, none⟩ = some h) ∧
    W.frozen? ⟨B, 0, none⟩ = false ∧ W.frozen? ⟨B, 1, none⟩ = false ∧ W.frozen? ⟨B, 2, none⟩ = false ∧ W.frozen? ⟨B, 3, none⟩ = false ∧ W.frozen? ⟨B, 4, none⟩ = false ∧ W.frozen? ⟨B, 5, none⟩ = false ∧ W.frozen? ⟨B, 6, none⟩ = false ∧ W.frozen? ⟨B, 7, none⟩ = false := by
  refine ⟨⟨?_, ?_, ?_, ?_, ?_, ?_, ?_, ?_⟩, ?_, ?_, ?_, ?_, ?_, ?_, ?_, ?_⟩
  · rw [cell_of_row W B 0 _ T (0, 0) hb]; rfl
  · rw [cell_of_row W B 1 _ T (0, 0) hb]; rfl
  · rw [cell_of_row W B 2 _ T (0, 0) hb]; rfl
  · rw [cell_of_row W B 3 _ T (0, 0) hb]; rfl
  · rw [cell_of_row W B 4 _ T (0, 0) hb]; rfl
  · rw [cell_of_row W B 5 _ T (0, 0) hb]; rfl
  · rw [cell_of_row W B 6 _ T (0, 0) hb]; rfl
  · rw [cell_of_row W B 7 _ T (0, 0) hb]; rfl
  all_goals exact frozen_of_row W B _ _ T hb
theorem UK.last {p O : Nat → Prop} {bb K m g n cap : Nat} {ss : List PT} {q : PT} {c : Int} {l : TL} {w : World} (h : UK p bb K (.slice (some ⟨g, 0, none⟩) n cap) (ss ++ [q]) c O m l w) :
    n = ss.length + 1 ∧ ss.length + 1 ≤ cap ∧ cap ≤ maxLen ∧ (w.cell? ⟨g, ss.length * 8, none⟩ = some (.int .i64 q.1.kind) ∧ w.cell? ⟨g, ss.length * 8 + 1, none⟩ = some (.int .i64 q.1.n) ∧ w.cell? ⟨g, ss.length * 8 + 2, none⟩ = some (.string q.1.name) ∧ w.cell? ⟨g, ss.length * 8 + 3, none⟩ = some (.slice q.1.at_.1 q.1.args.length q.1.at_.2)) ∧
    w.cell? ⟨g, ss.length * 8 + 4, none⟩ = some (.int .i64 q.2.kind) ∧ w.cell? ⟨g, ss.length * 8 + 5, none⟩ = some (.int .i64 q.2.n) ∧ w.cell? ⟨g, ss.length * 8 + 6, none⟩ = some (.string q.2.name) ∧ w.cell? ⟨g, ss.length * 8 + 7, none⟩ = some (.slice q.2.at_.1 q.2.args.length q.2.at_.2) := by
  have hr := h.row
  have hn : n = ss.length + 1 := by
    rcases hr.2 with ⟨e, _⟩ | ⟨g', c', cur, e, _⟩
    · cases e
    · injection e with _ e _; simp at e; exact e
  subst hn
  have hcap : ss.length + 1 ≤ cap ∧ cap ≤ maxLen := by
    rcases hr.2 with ⟨e, _⟩ | ⟨g', c', cur, e, _, h1, h2, _⟩
    · cases e
    · injection e with _ _ e; subst e; simp at h1; omega
  have hr' : Row w 187 8 (.slice (some ⟨g, 0, none⟩) (ss.length + 1) cap) (ss.length + 1) ((ss ++ [q]).flatMap PT.cells) := by simpa using hr
  have hi : (ss ++ [q])[ss.length]? = some q := by simp
  refine ⟨rfl, hcap.1, hcap.2, ⟨hr'.cells rfl _ _ ?_, hr'.cells rfl _ _ ?_, hr'.cells rfl _ _ ?_, hr'.cells rfl _ _ ?_⟩, hr'.cells rfl _ _ ?_, hr'.cells rfl _ _ ?_, hr'.cells rfl _ _ ?_, hr'.cells rfl _ _ ?_⟩
  · have := PT.flat_at hi 0 (by omega); rw [Nat.add_zero] at this; rw [this, PT.cells_eq]; rfl
  all_goals (rw [PT.flat_at hi _ (by omega), PT.cells_eq]; rfl)
theorem UK.popc {p O : Nat → Prop} {bb K m g n cap : Nat} {ss : List PT} {q : PT} {c : Int} {l : TL} {w : World} (h : UK p bb K (.slice (some ⟨g, 0, none⟩) n cap) (ss ++ [q]) c O m l w) (c' : Int) :
    UK p bb K (.slice (some ⟨g, 0, none⟩) ss.length cap) ss c' O m l ((w.setCell ⟨K, 1, none⟩ (.slice (some ⟨g, 0, none⟩) ss.length cap)).setCell ⟨K, 2, none⟩ (.int .i64 c')) ∧ Turned (fun k => k = K) w ((w.setCell ⟨K, 1, none⟩ (.slice (some ⟨g, 0, none⟩) ss.length cap)).setCell ⟨K, 2, none⟩ (.int .i64 c')) := by
  obtain ⟨hn, h1, h2, _⟩ := h.last
  subst hn
  have T : Turned (fun k => k = K) w (w.setCell ⟨K, 1, none⟩ (.slice (some ⟨g, 0, none⟩) ss.length cap)) := (Turned.refl (fun k => k = K) w).setCell (p := ⟨K, 1, none⟩) (.inr rfl) _
  have hp : ∀ q : LT, q.In p w → q.In p (w.setCell ⟨K, 1, none⟩ (.slice (some ⟨g, 0, none⟩) ss.length cap)) := fun q hq => LT.In.turned T (fun k _ hk e => h.kO.2 (e ▸ hk)) (fun _ _ hk => hk) q hq
  have hr' : Row w 187 8 (.slice (some ⟨g, 0, none⟩) (ss.length + 1) cap) (ss.length + 1) ((ss ++ [q]).flatMap PT.cells) := by simpa using h.row
  have ht := hr'.take (m := ss.length) (c := cap) (by omega) (by omega) (Nat.le_refl _)
  rw [List.flatMap_append, List.take_left' (by rw [PT.flat_length])] at ht
  have h1 : UK p bb K (.slice (some ⟨g, 0, none⟩) ss.length cap) ss c O m l (w.setCell ⟨K, 1, none⟩ (.slice (some ⟨g, 0, none⟩) ss.length cap)) := by
    refine ⟨h.bo.turned T (fun k hk e => ⟨fun c => h.kO.1 (e ▸ c), fun c => h.kO.2 (e ▸ c)⟩), ?_, ht.turned T (fun k hk e => (h.vO k (by simpa [Value.ownBlock] using hk)).2.2 e), fun q' hq => ?_, h.kO, fun g' hg => h.vO g' (by simpa [Value.ownBlock] using hg)⟩
    · have := heap_setCell_same w K 1 _ 190 (.slice (some ⟨g, 0, none⟩) ss.length cap) h.k
      simpa using this
    · have hm := h.mem q' (List.mem_append_left _ hq)
      exact ⟨⟨hp _ hm.1.1, hm.1.2⟩, hp _ hm.2.1, hm.2.2⟩
  obtain ⟨h3, T3⟩ := h1.cost c'
  exact ⟨h3, T.trans T3⟩
def BxS (q : PT) (wr : World) : List Value → World → Prop
  | [], W => Turned (fun _ => False) wr W
  | [b], W => Turned (fun _ => False) wr W ∧ ∃ B a0 a1 a2 a3 a4 a5 a6 a7, b = .pointer (some ⟨B, 0, none⟩) ∧ wr.heap.size ≤ B ∧ W.heap[B]? = some (.cells #[a0, a1, a2, a3, a4, a5, a6, a7] 187 (0, 0))
  | [b, _], W => Turned (fun _ => False) wr W ∧ ∃ B, b = .pointer (some ⟨B, 0, none⟩) ∧ wr.heap.size ≤ B ∧ W.heap[B]? = some (.cells #[.int .i64 q.1.kind, .int .i64 q.1.n, .string q.1.name, .slice q.1.at_.1 q.1.args.length q.1.at_.2, .int .i64 q.2.kind, .int .i64 q.2.n, .string q.2.name, .slice q.2.at_.1 q.2.args.length q.2.at_.2] 187 (0, 0))
  | _, _ => False
theorem BxS.turned0 {q : PT} {wr : World} : ∀ (hs : List Value) (w w' : World), BxS q wr hs w → Turned (fun _ => False) w w' → BxS q wr hs w'
  | [], _, _, h, T => Turned.trans h T
  | [_], _, _, ⟨h1, B, a0, a1, a2, a3, a4, a5, a6, a7, h2, h3, h4⟩, T => ⟨h1.trans T, B, a0, a1, a2, a3, a4, a5, a6, a7, h2, h3, (T.block _ (Array.getElem?_eq_some_iff.1 h4).1 (fun f => f)).trans h4⟩
  | [_, _], _, _, ⟨h1, B, h2, h3, h4⟩, T => ⟨h1.trans T, B, h2, h3, (T.block _ (Array.getElem?_eq_some_iff.1 h4).1 (fun f => f)).trans h4⟩
  | _ :: _ :: _ :: _, _, _, h, _ => h.elim
theorem BxS.turned {q : PT} {wr : World} : ∀ (hs : List Value) (W : World), BxS q wr hs W → Turned (fun _ => False) wr W
  | [], _, h => h
  | [_], _, h => h.1
  | [_, _], _, h => h.1
  | _ :: _ :: _ :: _, _, h => h.elim
structure AllI (p : Nat → Prop) (bb K : Nat) (v0 : Value) (O0 : Nat → Prop) (m : Nat) (l0 : TL) (U : Tm.UR) (w0 : World) (v : Value) (st : List PT) (c : Nat) (O : Nat → Prop) (l : TL) (wr : World) : Prop where
  uk : UK p bb K v st c O m l wr
  c2 : c ≤ 2000
  len : st.length ≤ 1 + 8 * c
  pre : ∃ a, bt l = a ++ bt l0
  same : Tm.unify (bt l) (2000 - c) (pairsT st) = U
  own : ∀ k, ownU K v O k → k < w0.heap.size → ownU K v0 O0 k
  ownO : ∀ k, O k → k < w0.heap.size → O0 k
  turned : Turned (ownU K v0 O0) w0 wr
def AllQ (p : Nat → Prop) (bb K : Nat) (v0 : Value) (O0 : Nat → Prop) (m : Nat) (l0 : TL) (w0 : World) : Tm.UR → Ending → World → Prop
  | .ok l' left', e, w' => e = .returned (.tuple #[.bool true, .int .i64 0]) ∧ ∃ v st O l, bt l = l' ∧ UK p bb K v st (2000 - (left' : Int)) O m l w' ∧ (∀ k, O k → k < w0.heap.size → O0 k) ∧ Turned (ownU K v0 O0) w0 w'
  | .no q, e, w' => e = .returned (.tuple #[.bool false, .int .i64 0]) ∧ ∃ v st O l, (∃ a, bt l = a ++ bt l0) ∧ UK p bb K v st (2000 - (q : Int)) O m l w' ∧ (∀ k, O k → k < w0.heap.size → O0 k) ∧ Turned (ownU K v0 O0) w0 w'
  | .over, e, w' => e = .returned (.tuple #[.bool false, .int .i64 12]) ∧ ∃ v st c O l, (∃ a, bt l = a ++ bt l0) ∧ UK p bb K v st c O m l w' ∧ (∀ k, O k → k < w0.heap.size → O0 k) ∧ Turned (ownU K v0 O0) w0 w'
section
variable {p O0 O : Nat → Prop} {bb K m : Nat} {v0 v : Value} {st : List PT} {c : Nat} {l0 l : TL} {U : Tm.UR} {w0 wr w5 w6 w' : World}
theorem AllI.far {O' : Nat → Prop} {v' : Value} (h : AllI p bb K v0 O0 m l0 U w0 v st c O l wr) (T5 : Turned (fun _ => False) wr w5) (T6 : Turned (fun k => k = K) w5 w6) (T : Turned (ownU K v' O) w6 w') (hv : ∀ k, v'.ownBlock = some k → v.ownBlock = some k) (hO : ∀ k, O' k → k < w6.heap.size → O k) :
    (∀ k, O' k → k < w0.heap.size → O0 k) ∧ Turned (ownU K v0 O0) w0 w' ∧ w0.heap.size ≤ w6.heap.size := by
  have hs : w0.heap.size ≤ w6.heap.size := by have := h.turned.size; have := T5.size; have := T6.size; omega
  refine ⟨fun k hk hl => h.ownO k (hO k hk (Nat.lt_of_lt_of_le hl hs)) hl, ?_, hs⟩
  have R5 := h.turned.trans (T5.mono (fun _ _ f => f.elim))
  have R6 := R5.step T6 (fun i hi e => .inl e)
  exact R6.step T (fun i hi e => h.own i (e.elim .inl (fun e => e.elim (fun e => .inr (.inl (hv i e))) (fun e => .inr (.inr e)))) hi)
set_option maxRecDepth 100000 in
set_option maxHeartbeats 12800000 in
theorem all153 {w : World} (h : UK p bb K v st c O m l w) (hc : c ≤ 2000) (hl : st.length ≤ 1 + 8 * c) :
    Calls Try.prog 153 #[.pointer (some ⟨K, 0, none⟩)] w (AllQ p bb K v O m l w (Tm.unify (bt l) (2000 - c) (pairsT st))) := by
  obtain ⟨U, hU⟩ : ∃ z, z = Tm.unify (bt l) (2000 - c) (pairsT st) := ⟨_, rfl⟩
  rw [← hU]
  have hinit : Hid (AllI p bb K v O m l U w v st c O l w) := ⟨h, hc, hl, ⟨[], rfl⟩, hU.symm, fun _ hk _ => hk, fun _ hk _ => hk, Turned.refl _ _⟩
  clear h hl hU
  go_enter Try.func153, Try.ntmps153
  go_wp2_with fail
  go_loopg [] (2000 - c) (fun k wr => ∃ v' st' c' O' l', Hid (c' + k = 2000) ∧ Hid (AllI p bb K v O m l U w v' st' c' O' l' wr))
  case atStart => exact ⟨v, st, c, O, l, show _ = _ by omega, hinit⟩
  case round =>
    obtain ⟨v1, st1, c1, O1, l1, HG, HI⟩ := hrel
    obtain ⟨k0, k1, k2, kf1, kf2⟩ := HI.out.uk.kcells
    rcases List.eq_nil_or_concat st1 with rfl | ⟨ss, q, rfl⟩
    · obtain ⟨a, cap, rfl⟩ := HI.out.uk.row.shape
      have hu : U = .ok (bt l1) (2000 - c1) := HI.out.same.symm
      have HE := Lib.hid hu
      clear hu
      go_wp2_with fail
      go_ret2
      rw [HE.out]
      have huk := HI.out.uk
      rw [show (c1 : Int) = 2000 - ((2000 - c1 : Nat) : Int) from by have := HI.out.c2; omega] at huk
      exact ⟨rfl, .slice a ([] : List PT).length cap, [], O1, l1, rfl, huk, HI.out.ownO, HI.out.turned⟩
    · rw [List.concat_eq_append] at HI
      obtain ⟨g, cap, rfl⟩ := HI.out.uk.row.shape_pos (by simp)
      obtain ⟨hn1, hc1, hc2, _⟩ := HI.out.uk.last
      have hcm : cap ≤ 9223372036854775807 := by unfold maxLen at hc2; exact hc2
      have hss : ss.length ≤ 16001 := by have h1 := HI.out.len; have h2 := HI.out.c2; rw [List.length_append, List.length_singleton] at h1; omega
      rw [List.length_append, List.length_singleton] at k1
      have HKW : Hid (∀ W, Turned (fun _ => False) wr W → W.cell? ⟨K, 0, none⟩ = some (.pointer (some ⟨bb, 0, none⟩)) ∧ W.cell? ⟨K, 1, none⟩ = some (.slice (some ⟨g, 0, none⟩) (ss.length + 1) cap) ∧ W.cell? ⟨K, 2, none⟩ = some (.int .i64 c1) ∧ W.frozen? ⟨K, 1, none⟩ = false ∧ W.frozen? ⟨K, 2, none⟩ = false) := fun W T => by
        have := (HI.out.uk.turned0 T).kcells
        rw [List.length_append, List.length_singleton] at this
        exact this
      have HLW := Lib.hid (fun W (T : Turned (fun _ => False) wr W) => (HI.out.uk.turned0 T).last.2.2.2)
      clear hn1
      go_wp2_with fail
      refine wp_region_hsW [13, 14, 15, 16, 17, 18, 19, 20, 21, 22, 23, 24, 4] [12, 13] [1, 1, 1, 1, 1, 1, 1, 1, 1, 1, 1, 1, 1, 2] [4, 100013] (fun dd vv => (match dd with | 13 => vv = .pointer (some ⟨K, 0, none⟩) | 14 => vv = .pointer (some ⟨K, 0, none⟩) | 15 => vv = .pointer (some ⟨K, 1, none⟩) | 16 => vv = .slice (some ⟨g, 0, none⟩) (ss.length + 1) cap | 17 => vv = .pointer (some ⟨K, 0, none⟩) | 18 => vv = .pointer (some ⟨K, 0, none⟩) | 19 => vv = .pointer (some ⟨K, 1, none⟩) | 20 => vv = .slice (some ⟨g, 0, none⟩) (ss.length + 1) cap | 21 => vv = .int .i64 ((ss.length : Int) + 1) | 22 => vv = .int .i64 ss.length | 23 => vv = .pointer (some ⟨g, ss.length * 8, none⟩) | 24 => vv = .agg #[.int .i64 q.1.kind, .int .i64 q.1.n, .string q.1.name, .slice q.1.at_.1 q.1.args.length q.1.at_.2, .int .i64 q.2.kind, .int .i64 q.2.n, .string q.2.name, .slice q.2.at_.1 q.2.args.length q.2.at_.2] | _ => True : Prop)) (BxS q wr) (by kernel_rfl) rfl (by kernel_rfl) (by kernel_rfl) (by kernel_rfl) (by kernel_rfl) (fun w h => h) (fun hs w w' h T => BxS.turned0 hs w w' h T) ?hs ?hQ
      case hs =>
        refine ⟨?s0, ?s1, ?s2, ?s3, ?s4, ?s5, ?s6, ?s7, ?s8, ?s9, ?s10, ?s11, ?s12, ?s13, trivial⟩
        case s0 =>
          refine fun hs hle => stepG_free [] [0] (by kernel_rfl) rfl ?_
          intro ac W hT hI hO
          have hle : hs.length ≤ 1 := hle
          have h0 : ac.tmps.getD 0 undef = .pointer (some ⟨K, 0, none⟩) := hO 0 (by simp)
          show Brings Try.prog (fun vv w' => Turned (fun _ => False) W w' ∧ vv = .pointer (some ⟨K, 0, none⟩)) _
          simp only [execOp, Act.eval, h0]
          go_simp
          try exact ⟨Turned.refl _ _, rfl⟩
        case s1 =>
          refine fun hs hle => stepG_free [13] [] (by kernel_rfl) rfl ?_
          intro ac W hT hI hO
          have hle : hs.length ≤ 1 := hle
          have h13 : ac.tmps.getD 13 undef = .pointer (some ⟨K, 0, none⟩) := hI 13 (by simp)
          show Brings Try.prog (fun vv w' => Turned (fun _ => False) W w' ∧ vv = .pointer (some ⟨K, 0, none⟩)) _
          obtain ⟨k0, k1, k2, kf1, kf2⟩ := HKW.out W (BxS.turned hs W hT)
          simp only [execOp, Act.eval, h13]
          go_simp
          try exact ⟨Turned.refl _ _, rfl⟩
        case s2 =>
          refine fun hs hle => stepG_free [14] [] (by kernel_rfl) rfl ?_
          intro ac W hT hI hO
          have hle : hs.length ≤ 1 := hle
          have h14 : ac.tmps.getD 14 undef = .pointer (some ⟨K, 0, none⟩) := hI 14 (by simp)
          show Brings Try.prog (fun vv w' => Turned (fun _ => False) W w' ∧ vv = .pointer (some ⟨K, 1, none⟩)) _
          simp only [execOp, Act.eval, h14]
          go_simp
          try exact ⟨Turned.refl _ _, rfl⟩
        case s3 =>
          refine fun hs hle => stepG_free [15] [] (by kernel_rfl) rfl ?_
          intro ac W hT hI hO
          have hle : hs.length ≤ 1 := hle
          have h15 : ac.tmps.getD 15 undef = .pointer (some ⟨K, 1, none⟩) := hI 15 (by simp)
          show Brings Try.prog (fun vv w' => Turned (fun _ => False) W w' ∧ vv = .slice (some ⟨g, 0, none⟩) (ss.length + 1) cap) _
          obtain ⟨k0, k1, k2, kf1, kf2⟩ := HKW.out W (BxS.turned hs W hT)
          simp only [execOp, Act.eval, h15]
          go_simp
          try exact ⟨Turned.refl _ _, rfl⟩
        case s4 =>
          refine fun hs hle => stepG_free [] [0] (by kernel_rfl) rfl ?_
          intro ac W hT hI hO
          have hle : hs.length ≤ 1 := hle
          have h0 : ac.tmps.getD 0 undef = .pointer (some ⟨K, 0, none⟩) := hO 0 (by simp)
          show Brings Try.prog (fun vv w' => Turned (fun _ => False) W w' ∧ vv = .pointer (some ⟨K, 0, none⟩)) _
          simp only [execOp, Act.eval, h0]
          go_simp
          try exact ⟨Turned.refl _ _, rfl⟩
        case s5 =>
          refine fun hs hle => stepG_free [17] [] (by kernel_rfl) rfl ?_
          intro ac W hT hI hO
          have hle : hs.length ≤ 1 := hle
          have h17 : ac.tmps.getD 17 undef = .pointer (some ⟨K, 0, none⟩) := hI 17 (by simp)
          show Brings Try.prog (fun vv w' => Turned (fun _ => False) W w' ∧ vv = .pointer (some ⟨K, 0, none⟩)) _
          obtain ⟨k0, k1, k2, kf1, kf2⟩ := HKW.out W (BxS.turned hs W hT)
          simp only [execOp, Act.eval, h17]
          go_simp
          try exact ⟨Turned.refl _ _, rfl⟩
        case s6 =>
          refine fun hs hle => stepG_free [18] [] (by kernel_rfl) rfl ?_
          intro ac W hT hI hO
          have hle : hs.length ≤ 1 := hle
          have h18 : ac.tmps.getD 18 undef = .pointer (some ⟨K, 0, none⟩) := hI 18 (by simp)
          show Brings Try.prog (fun vv w' => Turned (fun _ => False) W w' ∧ vv = .pointer (some ⟨K, 1, none⟩)) _
          simp only [execOp, Act.eval, h18]
          go_simp
          try exact ⟨Turned.refl _ _, rfl⟩
        case s7 =>
          refine fun hs hle => stepG_free [19] [] (by kernel_rfl) rfl ?_
          intro ac W hT hI hO
          have hle : hs.length ≤ 1 := hle
          have h19 : ac.tmps.getD 19 undef = .pointer (some ⟨K, 1, none⟩) := hI 19 (by simp)
          show Brings Try.prog (fun vv w' => Turned (fun _ => False) W w' ∧ vv = .slice (some ⟨g, 0, none⟩) (ss.length + 1) cap) _
          obtain ⟨k0, k1, k2, kf1, kf2⟩ := HKW.out W (BxS.turned hs W hT)
          simp only [execOp, Act.eval, h19]
          go_simp
          try exact ⟨Turned.refl _ _, rfl⟩
        case s8 =>
          refine fun hs hle => stepG_free [20] [] (by kernel_rfl) rfl ?_
          intro ac W hT hI hO
          have hle : hs.length ≤ 1 := hle
          have h20 : ac.tmps.getD 20 undef = .slice (some ⟨g, 0, none⟩) (ss.length + 1) cap := hI 20 (by simp)
          show Brings Try.prog (fun vv w' => Turned (fun _ => False) W w' ∧ vv = .int .i64 ((ss.length : Int) + 1)) _
          simp only [execOp, Act.eval, h20]
          go_simp
          try exact ⟨Turned.refl _ _, rfl⟩
        case s9 =>
          refine fun hs hle => stepG_free [21] [] (by kernel_rfl) rfl ?_
          intro ac W hT hI hO
          have hle : hs.length ≤ 1 := hle
          have h21 : ac.tmps.getD 21 undef = .int .i64 ((ss.length : Int) + 1) := hI 21 (by simp)
          show Brings Try.prog (fun vv w' => Turned (fun _ => False) W w' ∧ vv = .int .i64 ss.length) _
          simp only [execOp, Act.eval, h21]
          go_simp
          try rw [wrapI (by omega) (by omega)]
          try exact ⟨Turned.refl _ _, rfl⟩
        case s10 =>
          refine fun hs hle => stepG_free [16, 22] [] (by kernel_rfl) rfl ?_
          intro ac W hT hI hO
          have hle : hs.length ≤ 1 := hle
          have h16 : ac.tmps.getD 16 undef = .slice (some ⟨g, 0, none⟩) (ss.length + 1) cap := hI 16 (by simp)
          have h22 : ac.tmps.getD 22 undef = .int .i64 ss.length := hI 22 (by simp)
          show Brings Try.prog (fun vv w' => Turned (fun _ => False) W w' ∧ vv = .pointer (some ⟨g, ss.length * 8, none⟩)) _
          simp only [execOp, Act.eval, h16, h22]
          go_simp
          try rw [if_pos (by omega)]
          try exact ⟨Turned.refl _ _, rfl⟩
        case s11 =>
          refine fun hs hle => stepG_free [23] [] (by kernel_rfl) rfl ?_
          intro ac W hT hI hO
          have hle : hs.length ≤ 1 := hle
          have h23 : ac.tmps.getD 23 undef = .pointer (some ⟨g, ss.length * 8, none⟩) := hI 23 (by simp)
          show Brings Try.prog (fun vv w' => Turned (fun _ => False) W w' ∧ vv = .agg #[.int .i64 q.1.kind, .int .i64 q.1.n, .string q.1.name, .slice q.1.at_.1 q.1.args.length q.1.at_.2, .int .i64 q.2.kind, .int .i64 q.2.n, .string q.2.name, .slice q.2.at_.1 q.2.args.length q.2.at_.2]) _
          obtain ⟨⟨x0, x1, x2, x3⟩, x4, x5, x6, x7⟩ := HLW.out W (BxS.turned hs W hT)
          simp only [execOp, Act.eval, h23]
          go_simp
          try exact ⟨Turned.refl _ _, rfl⟩
        case s12 =>
          refine fun hs hlen => stepG_free [] [] (by kernel_rfl) rfl ?_
          intro ac W hT hI hO
          obtain rfl : hs = [] := List.eq_nil_of_length_eq_zero hlen
          replace hT : Turned (fun _ => False) wr W := hT
          show Brings Try.prog (fun vv w' => BxS q wr [vv] w') _
          simp only [execOp, Act.eval]
          go_simp
          exact ⟨hT.alloc _, _, _, _, _, _, _, _, _, _, rfl, hT.size, heap_alloc_new W _⟩
        case s13 =>
          refine fun hs hlen => stepG_free [4, 24] [] (by kernel_rfl) rfl ?_
          intro ac W hT hI hO
          have h4 : hs[0]? = some (ac.tmps.getD 4 undef) := hI 4 (by simp)
          have h24 : ac.tmps.getD 24 undef = .agg #[.int .i64 q.1.kind, .int .i64 q.1.n, .string q.1.name, .slice q.1.at_.1 q.1.args.length q.1.at_.2, .int .i64 q.2.kind, .int .i64 q.2.n, .string q.2.name, .slice q.2.at_.1 q.2.args.length q.2.at_.2] := hI 24 (by simp)
          obtain ⟨a, rfl⟩ := List.length_eq_one_iff.1 hlen
          obtain ⟨hT1, B, a0, a1, a2, a3, a4, a5, a6, a7, ha, hB, hb⟩ := hT
          have e4 : a = ac.tmps.getD 4 undef := by simpa using h4
          rw [e4] at ha
          obtain ⟨⟨p0, p1, p2, p3, p4, p5, p6, p7⟩, f0, f1, f2, f3, f4, f5, f6, f7⟩ := cells8 hb
          have HST := Lib.hid (set8 (a' := .int .i64 q.1.kind) (b' := .int .i64 q.1.n) (c' := .string q.1.name) (d' := .slice q.1.at_.1 q.1.args.length q.1.at_.2) (e' := .int .i64 q.2.kind) (f' := .int .i64 q.2.n) (g' := .string q.2.name) (h' := .slice q.2.at_.1 q.2.args.length q.2.at_.2) hb)
          have HT8 := Lib.hid (hT1.step (turned8 W B (.int .i64 q.1.kind) (.int .i64 q.1.n) (.string q.1.name) (.slice q.1.at_.1 q.1.args.length q.1.at_.2) (.int .i64 q.2.kind) (.int .i64 q.2.n) (.string q.2.name) (.slice q.2.at_.1 q.2.args.length q.2.at_.2)) (fun i hi e => by omega))
          have HBB : Hid (wr.heap.size ≤ B) := hB
          show Brings Try.prog (fun vv w' => BxS q wr [a, vv] w') _
          have HEA := Lib.hid (e4.trans ha)
          clear hb hT1 hB
          simp only [execOp, Act.eval, ha, h24]
          go_simp
          exact ⟨HT8.out, B, by first | rfl | exact HEA.out, HBB.out, HST.out⟩
      case hQ =>
        intro hs2 vs2 w5 hlen2 hR hV
        obtain ⟨b1, b2, rfl⟩ := list2' hlen2
        obtain ⟨T5, B, rfl, hB, hb5⟩ := hR
        have q4 : some (Value.pointer (some ⟨B, 0, none⟩)) = some (vs2 4) := hV 4 (by simp)
        have q4' : vs2 4 = .pointer (some ⟨B, 0, none⟩) := (Option.some.inj q4).symm
        simp only [List.foldl_cons, List.foldl_nil, List.setIfInBounds_toArray, List.set_cons_zero, List.set_cons_succ, q4']
        clear q4 q4' hV hlen2
        have HB5 := Lib.hid hb5
        have HBN : Hid (wr.heap.size ≤ B) := hB
        have hpc := (HI.out.uk.turned0 T5).popc ((c1 : Int) + 1)
        have HPC := Lib.hid (And.intro (hpc.1.turned0 (Turned.refl _ _).drew) hpc.2.drew)
        have HT5 := Lib.hid T5
        have hkl := (Array.getElem?_eq_some_iff.1 HI.out.uk.k).1
        have hKB : K ≠ B := by have := HBN.out; omega
        have hBK : B ≠ K := by have := HBN.out; omega
        obtain ⟨k0, k1, k2, kf1, kf2⟩ := HKW.out w5 T5
        obtain ⟨⟨p0, p1, p2, p3, p4, p5, p6, p7⟩, _⟩ := cells8 hb5
        have hc2k := HI.out.c2
        have hcc : ss.length ≤ cap := by omega
        have hwr : IntKind.i64.wrap (ss.length : Int) = (ss.length : Int) := wrapI (by omega) (by omega)
        clear T5 hB hb5 hpc
        go_wp2_with fail
        refine region_tail 14 (by kernel_rfl) (by kernel_rfl) ?_
        simp only [List.take_succ_cons, List.take_zero, List.drop_succ_cons, List.drop_zero]
        repeat still_step
        refine wpStill_nil ?_
        by_cases hover : c1 = 2000
        · have hu : U = .over := by
            have := HI.out.same
            rw [hover, pairsT_snoc, show 2000 - 2000 = 0 from rfl, Tm.unify_zero] at this
            exact this.symm
          have HE := Lib.hid hu
          have d1 : decide (2000 < (c1 : Int) + 1) = true := decide_eq_true (by omega)
          clear hu hover
          go_wp2_with fail
          go_ret2
          rw [HE.out]
          obtain ⟨r1, r2, _⟩ := HI.out.far HT5.out HPC.out.2 (Turned.refl (ownU K (.slice (some ⟨g, 0, none⟩) (ss ++ [q]).length cap) O1) _) (fun k hk => hk) (O' := O1) (fun k hk _ => hk)
          exact ⟨rfl, _, ss, _, O1, l1, HI.out.pre, HPC.out.1, r1, r2⟩
        · have d1 : decide (2000 < (c1 : Int) + 1) = false := decide_eq_false (by omega)
          obtain ⟨hx, hy⟩ := HI.out.uk.mem q (by simp)
          have T6 := HPC.out.2
          have hin : ∀ t : LT, t.In p wr → t.In p ((w5.setCell ⟨K, 1, none⟩ (.slice (some ⟨g, 0, none⟩) ss.length cap)).setCell ⟨K, 2, none⟩ (.int .i64 ((c1 : Int) + 1))).drew := fun t ht => LT.In.turned T6 (fun k _ hk e => HI.out.uk.kO.2 (e ▸ hk)) (fun _ _ hk => hk) _ (ht.turned0 HT5.out)
          have hone := one173 (c := c1 + 1) (by rw [show (((c1 + 1 : Nat) : Int)) = (c1 : Int) + 1 from by omega]; exact HPC.out.1) (by omega) (by omega) (hin _ hx.1) hx.2 (hin _ hy.1) hy.2
          rw [LT.val_eq, LT.val_eq] at hone
          have hun := HI.out.same
          rw [pairsT_snoc, show 2000 - c1 = (2000 - (c1 + 1)) + 1 from by omega] at hun
          obtain ⟨S, hS⟩ : ∃ z, z = Tm.oneU (bt l1) (2000 - (c1 + 1)) (Tm.walkT (bt l1) q.1.bare) (Tm.walkT (bt l1) q.2.bare) := ⟨_, rfl⟩
          rw [← hS] at hone
          have HON := Lib.hid hone
          have HUN := Lib.hid hun
          have HS := Lib.hid hS
          clear hone hun hS hx hy hin T6
          cases S with
          | more ps =>
            have hu := (Tm.unify_more (r := pairsT ss) HS.out.symm).symm.trans HUN.out
            have HE := Lib.hid hu
            clear hu
            go_wp2_with (go_at_call 173; (with_reducible refine HON.out.mono ?_); rintro e w7 ⟨rfl, v7, qs, u7, hq7, ho7, T7⟩; have HU7 := Lib.hid u7; have HQ7 := Lib.hid hq7; have HO7 := Lib.hid ho7; have HT7 := Lib.hid T7; clear u7 hq7 ho7 T7)
            go_roundg (2000 - (c1 + 1))
            case measure => have := HG.out; omega
            case rel =>
              obtain ⟨r1, r2, r3⟩ := HI.out.far HT5.out HPC.out.2 HT7.out (fun k hk => by simpa [Value.ownBlock] using hk) (O' := O1) (fun k hk _ => hk)
              refine ⟨v7, ss ++ qs.reverse, c1 + 1, O1, l1, show _ = _ by omega, HU7.out, by omega, ?_, HI.out.pre, ?_, ?_, r1, r2⟩
              · have hql : qs.length ≤ 8 := by
                  have h1 := congrArg List.length HQ7.out
                  rw [List.length_map] at h1
                  have h2 := Tm.oneU_more_len HS.out.symm (Tm.walkT_own HI.out.uk.bo.ok _ _ (Nat.le_refl _) (HI.out.uk.mem q (by simp)).1.2)
                  omega
                have := HI.out.len
                rw [List.length_append, List.length_singleton] at this
                rw [List.length_append, List.length_reverse]
                omega
              · rw [pairsT_args, HQ7.out]; exact HE.out
              · intro k hk hl
                rcases hk with e | e | e
                · exact .inl e
                · rcases HO7.out with h | h
                  · exact HI.out.own k (.inr (.inl (by rw [h] at e; simpa [Value.ownBlock] using e))) hl
                  · have := h k e; omega
                · exact HI.out.own k (.inr (.inr e)) hl
          | done r =>
          cases r with
          | ok l' left' =>
            have hu := (Tm.unify_ok (r := pairsT ss) HS.out.symm).symm.trans HUN.out
            have HE := Lib.hid hu
            have hlf := Tm.oneU_left HS.out.symm
            have HLF := Lib.hid hlf
            clear hu hlf
            go_wp2_with (go_at_call 173; (with_reducible refine HON.out.mono ?_); rintro e w7 ⟨v7, rfl, rfl, l7, O7, hl7, u7, ho7, T7⟩; have HU7 := Lib.hid u7; have HL7 := Lib.hid hl7; have HO7 := Lib.hid ho7; have HT7 := Lib.hid T7; clear u7 hl7 ho7 T7)
            go_roundg left'
            case measure => have := HG.out; have := HLF.out; omega
            case rel =>
              obtain ⟨r1, r2, r3⟩ := HI.out.far HT5.out HPC.out.2 HT7.out (fun k hk => by simpa [Value.ownBlock] using hk) HO7.out
              have hlf := HLF.out
              refine ⟨.slice (some ⟨g, 0, none⟩) ss.length cap, ss, 2000 - left', O7, l7, show _ = _ by omega, ?_, by omega, ?_, ?_, ?_, ?_, r1, r2⟩
              · rw [show (((2000 - left' : Nat) : Int)) = 2000 - (left' : Int) from by omega]; exact HU7.out
              · have := HI.out.len
                rw [List.length_append, List.length_singleton] at this
                omega
              · obtain ⟨a, ha⟩ := HI.out.pre
                obtain ⟨a2, ha2⟩ := Tm.oneU_pre HS.out.symm
                exact ⟨a2 ++ a, by rw [HL7.out, ha2, ha, List.append_assoc]⟩
              · rw [HL7.out, show 2000 - (2000 - left') = left' from by omega]; exact HE.out
              · intro k hk hl
                rcases hk with e | e | e
                · exact .inl e
                · exact HI.out.own k (.inr (.inl (by simpa [Value.ownBlock] using e))) hl
                · exact HI.out.own k (.inr (.inr (HO7.out k e (Nat.lt_of_lt_of_le hl r3)))) hl
          | no q' =>
            have hu := (Tm.unify_no (r := pairsT ss) HS.out.symm).symm.trans HUN.out
            have HE := Lib.hid hu
            clear hu
            go_wp2_with (go_at_call 173; (with_reducible refine HON.out.mono ?_); rintro e w7 ⟨v7, rfl, rfl, l7, O7, hl7, u7, ho7, T7⟩; have HU7 := Lib.hid u7; have HL7 := Lib.hid hl7; have HO7 := Lib.hid ho7; have HT7 := Lib.hid T7; clear u7 hl7 ho7 T7)
            go_ret2
            rw [← HE.out]
            obtain ⟨r1, r2, r3⟩ := HI.out.far HT5.out HPC.out.2 HT7.out (fun k hk => by simpa [Value.ownBlock] using hk) HO7.out
            exact ⟨rfl, _, ss, O7, l7, by rw [HL7.out]; exact HI.out.pre, HU7.out, r1, r2⟩
          | over =>
            have hu := (Tm.unify_over (r := pairsT ss) HS.out.symm).symm.trans HUN.out
            have HE := Lib.hid hu
            clear hu
            go_wp2_with (go_at_call 173; (with_reducible refine HON.out.mono ?_); rintro e w7 ⟨v7, rfl, rfl, c7, l7, O7, hl7, u7, ho7, T7⟩; have HU7 := Lib.hid u7; have HL7 := Lib.hid hl7; have HO7 := Lib.hid ho7; have HT7 := Lib.hid T7; clear u7 hl7 ho7 T7)
            go_ret2
            rw [← HE.out]
            obtain ⟨r1, r2, r3⟩ := HI.out.far HT5.out HPC.out.2 HT7.out (fun k hk => by simpa [Value.ownBlock] using hk) HO7.out
            exact ⟨rfl, _, ss, c7, O7, l7, by rw [HL7.out]; exact HI.out.pre, HU7.out, r1, r2⟩
end
end Go.Proofs.Ytoihjobdfjajfaa
namespace Go.Proofs.Ytoihjobdfjajfaa
open Go.RowKit Go.Maps
set_option linter.unusedVariables false
set_option linter.unusedSimpArgs false
theorem undoO101 {p O : Nat → Prop} {bb m : Nat} {l : TL} {w : World} (h : BO p bb O m l w) (n : Nat) (hn : n ≤ l.length) :
    Calls Try.prog 101 #[.pointer (some ⟨bb, 0, none⟩), .int .i64 n] w fun e w' => e = .returned (.bool true) ∧ After p bb O m (l.drop (l.length - n)) w w' := by
  obtain ⟨sb, lv, tv, B, hO⟩ := h.bi
  refine (undo101 B n hn).mono ?_
  rintro e w' ⟨rfl, ⟨tv', B', ho⟩, T⟩
  refine ⟨rfl, O, ⟨⟨sb, lv, tv', B', fun k hk => hO k ?_⟩, fun b hb => h.box b (List.mem_of_mem_drop hb), fun k hk => Nat.lt_of_lt_of_le (h.lt k hk) T.size, h.sep⟩, fun k hk _ => hk, T.mono (fun k _ e => hO k (e.elim (fun e => .inr (.inl e)) (fun e => e.elim (fun e => .inr (.inr (.inl e))) (fun e => .inr (.inr (.inr e))))))⟩
  rcases hk with e | e | e | e
  · exact .inl e
  · exact .inr (.inl e)
  · exact .inr (.inr (.inl e))
  · exact .inr (.inr (.inr (ho ▸ e)))
noncomputable def bothR (m : Nat) (l : Tm.Trail) (x y : Tm Unit) : Bool × Int × Int × Tm.Trail :=
  if Tm.ownB m x = true ∧ Tm.ownB m y = true then
    match Tm.unify l 2000 [(x, y)] with
    | .ok l' left' => (true, 2000 - (left' : Int), 0, l')
    | .no q => (false, 2000 - (q : Int), 0, l)
    | .over => (false, 0, 12, l)
  else (false, 0, 1, l)
theorem UK.new {p O : Nat → Prop} {bb m : Nat} {l : TL} {w : World} {x y : LT} (h : BO p bb O m l w) (hx : x.In p w) (gx : Tm.ownB m x.bare = true) (hy : y.In p w) (gy : Tm.ownB m y.bare = true) :
    UK p bb (w.heap.size + 1) (.slice (some ⟨w.heap.size, 0, none⟩) 1 1) [(x, y)] 0 O m l ((w.alloc (.cells #[.int .i64 x.kind, .int .i64 x.n, .string x.name, .slice x.at_.1 x.args.length x.at_.2, .int .i64 y.kind, .int .i64 y.n, .string y.name, .slice y.at_.1 y.args.length y.at_.2] 187)).alloc (.cells #[.pointer (some ⟨bb, 0, none⟩), .slice (some ⟨w.heap.size, 0, none⟩) 1 1, .int .i64 0] 190)) := by
  have T : Turned (fun _ => False) w ((w.alloc (.cells #[.int .i64 x.kind, .int .i64 x.n, .string x.name, .slice x.at_.1 x.args.length x.at_.2, .int .i64 y.kind, .int .i64 y.n, .string y.name, .slice y.at_.1 y.args.length y.at_.2] 187)).alloc (.cells #[.pointer (some ⟨bb, 0, none⟩), .slice (some ⟨w.heap.size, 0, none⟩) 1 1, .int .i64 0] 190)) := ((Turned.refl _ w).alloc _).alloc _
  refine ⟨h.turned0 T, heap_alloc2_new w _ _, ?_, fun q hq => ?_, ⟨fun e => by have := h.lt _ e; omega, fun e => by have := h.plt _ e; omega⟩, fun g hg => ?_⟩
  · have := Row.made w 187 8 #[.int .i64 x.kind, .int .i64 x.n, .string x.name, .slice x.at_.1 x.args.length x.at_.2, .int .i64 y.kind, .int .i64 y.n, .string y.name, .slice y.at_.1 y.args.length y.at_.2] 1 rfl (by unfold maxLen; omega)
    have := this.turned0 ((Turned.refl (fun _ => False) _).alloc (.cells #[.pointer (some ⟨bb, 0, none⟩), .slice (some ⟨w.heap.size, 0, none⟩) 1 1, .int .i64 0] 190))
    simpa [PT.cells_eq] using this
  · rw [List.mem_singleton] at hq
    rw [hq]
    exact ⟨⟨hx.turned0 T, gx⟩, hy.turned0 T, gy⟩
  · simp [Value.ownBlock] at hg
    subst hg
    exact ⟨fun e => by have := h.lt _ e; omega, fun e => by have := h.plt _ e; omega, by omega⟩
section
variable {p O : Nat → Prop} {bb m : Nat} {l : TL} {w w' : World}
theorem both_after {v v' : Value} {st : List PT} {c : Int} {K : Nat} {O' : Nat → Prop} {l2 : TL} {w4 w6 w5 : World} (T4 : Turned (fun _ => False) w w4) (T5 : Turned (fun _ => False) w w5) (hK : w.heap.size ≤ K) (hv : ∀ g, v.ownBlock = some g → w.heap.size ≤ g) (u : UK p bb K v' st c O' m l2 w6) (ho : ∀ k, O' k → k < w5.heap.size → O k) (T6 : Turned (ownU K v O) w5 w6) : After p bb O m l2 w w6 :=
  ⟨O', u.bo, fun k hk hl => ho k hk (Nat.lt_of_lt_of_le hl T5.size), (T5.mono (fun _ _ f => f.elim)).step T6 (fun i hi e => by
    rcases e with e | e | e
    · omega
    · have := hv i e; omega
    · exact e)⟩
set_option maxRecDepth 100000 in
set_option maxHeartbeats 12800000 in
theorem bothO110 {x y : LT} (h : BO p bb O m l w) (hx : x.In p w) (sx : slim x) (hy : y.In p w) (sy : slim y) :
    Calls Try.prog 110 #[.pointer (some ⟨bb, 0, none⟩), x.val, y.val] w fun e w' => e = .returned (.tuple #[.bool (bothR m (bt l) x.bare y.bare).1, .int .i64 (bothR m (bt l) x.bare y.bare).2.1, .int .i64 (bothR m (bt l) x.bare y.bare).2.2.1]) ∧ ∃ l2, bt l2 = (bothR m (bt l) x.bare y.bare).2.2.2 ∧ After p bb O m l2 w w' := by
  have h2 := twoBox w (.cells #[.int .i64 x.kind, .int .i64 x.n, .string x.name, .slice x.at_.1 x.args.length x.at_.2] 27) (.cells #[.int .i64 y.kind, .int .i64 y.n, .string y.name, .slice y.at_.1 y.args.length y.at_.2] 27)
  obtain ⟨w2, hw2⟩ : ∃ z, z = (w.alloc (.cells #[.int .i64 x.kind, .int .i64 x.n, .string x.name, .slice x.at_.1 x.args.length x.at_.2] 27)).alloc (.cells #[.int .i64 y.kind, .int .i64 y.n, .string y.name, .slice y.at_.1 y.args.length y.at_.2] 27) := ⟨_, rfl⟩
  rw [← hw2] at h2
  have hbx : ∀ W, Turned (fun _ => False) w2 W → W.heap[w.heap.size]? = some (.cells #[.int .i64 x.kind, .int .i64 x.n, .string x.name, .slice x.at_.1 x.args.length x.at_.2] 27 (0, 0)) ∧ W.heap[w.heap.size + 1]? = some (.cells #[.int .i64 y.kind, .int .i64 y.n, .string y.name, .slice y.at_.1 y.args.length y.at_.2] 27 (0, 0)) := fun W hW => ⟨(hW.block _ (by have := h2.2.1; omega) (fun f => f)).trans h2.2.2.1, (hW.block _ (by have := h2.2.1; omega) (fun f => f)).trans h2.2.2.2⟩
  have hox : ∀ W, Turned (fun _ => False) w2 W → Calls Try.prog 144 #[.pointer (some ⟨bb, 0, none⟩), x.val] W fun e w' => e = .returned (.bool (Tm.ownB m x.bare)) ∧ Turned (fun _ => False) W w' := fun W hW => by
    obtain ⟨sb, lv, tv, B, _⟩ := h.bi
    rw [ownB_bare]
    exact own144 (B.turned0 (h2.1.trans hW)) (hx.turned0 (h2.1.trans hW)) sx
  have hoy : ∀ W, Turned (fun _ => False) w2 W → Calls Try.prog 144 #[.pointer (some ⟨bb, 0, none⟩), y.val] W fun e w' => e = .returned (.bool (Tm.ownB m y.bare)) ∧ Turned (fun _ => False) W w' := fun W hW => by
    obtain ⟨sb, lv, tv, B, _⟩ := h.bi
    rw [ownB_bare]
    exact own144 (B.turned0 (h2.1.trans hW)) (hy.turned0 (h2.1.trans hW)) sy
  obtain ⟨R, hR⟩ : ∃ z, z = bothR m (bt l) x.bare y.bare := ⟨_, rfl⟩
  rw [← hR]
  have hsame : ∀ W, Turned (fun _ => False) w2 W → After p bb O m l w W := fun W hW => ⟨O, h.turned0 (h2.1.trans hW), fun _ hk _ => hk, (h2.1.trans hW).mono (fun _ _ f => f.elim)⟩
  rw [LT.val_eq] at hox hoy ⊢
  rw [LT.val_eq y]
  have HOX := Lib.hid hox
  have HOY := Lib.hid hoy
  have HBX := Lib.hid hbx
  have HW2 := Lib.hid hw2
  have HT2 := Lib.hid h2.1
  have HH := Lib.hid h
  have HX := Lib.hid hx
  have HY := Lib.hid hy
  have HSAME := Lib.hid hsame
  clear hox hoy hbx hw2 h2 h hx hy sx sy hsame
  cases gx : Tm.ownB m x.bare with
  | false =>
    have hr : R = (false, 0, 1, bt l) := by rw [hR]; unfold bothR; rw [if_neg (fun c => by rw [gx] at c; exact Bool.false_ne_true c.1)]
    rw [gx] at HOX
    have HR := Lib.hid hr
    clear hr hR gx
    go_enter Try.func110, Try.ntmps110
    go_wp2_with (go_at_call 144; rw [← HW2.out]; (with_reducible refine (HOX.out _ (Turned.refl _ _)).mono ?_); rintro e w3 ⟨rfl, T3⟩)
    go_ret3
    rw [HR.out]
    exact ⟨rfl, l, rfl, HSAME.out _ T3⟩
  | true =>
    rw [gx] at HOX
    cases gy : Tm.ownB m y.bare with
    | false =>
      have hr : R = (false, 0, 1, bt l) := by rw [hR]; unfold bothR; rw [if_neg (fun c => by rw [gy] at c; exact Bool.false_ne_true c.2)]
      rw [gy] at HOY
      have HR := Lib.hid hr
      clear hr hR gx gy
      go_enter Try.func110, Try.ntmps110
      go_wp2_with (first
        | (go_at_call 144; (with_reducible refine (HOY.out _ T3).mono ?_); rintro e w4 ⟨rfl, T4⟩)
        | (go_at_call 144; rw [← HW2.out]; (with_reducible refine (HOX.out _ (Turned.refl _ _)).mono ?_); rintro e w3 ⟨rfl, T3⟩; obtain ⟨c0, c1, c2, c3, _⟩ := cells4 (HBX.out _ T3).2))
      go_ret3
      rw [HR.out]
      exact ⟨rfl, l, rfl, HSAME.out _ (T3.trans T4)⟩
    | true =>
      rw [gy] at HOY
      have hr : R = match Tm.unify (bt l) 2000 [(x.bare, y.bare)] with
          | .ok l' left' => (true, 2000 - (left' : Int), 0, l')
          | .no q => (false, 2000 - (q : Int), 0, bt l)
          | .over => (false, 0, 12, bt l) := by rw [hR]; unfold bothR; rw [if_pos ⟨gx, gy⟩]
      have hall : ∀ W, Turned (fun _ => False) w2 W → Calls Try.prog 153 #[.pointer (some ⟨W.heap.size + 1, 0, none⟩)] ((W.alloc (.cells #[.int .i64 x.kind, .int .i64 x.n, .string x.name, .slice x.at_.1 x.args.length x.at_.2, .int .i64 y.kind, .int .i64 y.n, .string y.name, .slice y.at_.1 y.args.length y.at_.2] 187)).alloc (.cells #[.pointer (some ⟨bb, 0, none⟩), .slice (some ⟨W.heap.size, 0, none⟩) 1 1, .int .i64 0] 190)) (AllQ p bb (W.heap.size + 1) (.slice (some ⟨W.heap.size, 0, none⟩) 1 1) O m l ((W.alloc (.cells #[.int .i64 x.kind, .int .i64 x.n, .string x.name, .slice x.at_.1 x.args.length x.at_.2, .int .i64 y.kind, .int .i64 y.n, .string y.name, .slice y.at_.1 y.args.length y.at_.2] 187)).alloc (.cells #[.pointer (some ⟨bb, 0, none⟩), .slice (some ⟨W.heap.size, 0, none⟩) 1 1, .int .i64 0] 190)) (Tm.unify (bt l) 2000 [(x.bare, y.bare)])) := fun W hW =>
        all153 (c := 0) (UK.new (HH.out.turned0 (HT2.out.trans hW)) (HX.out.turned0 (HT2.out.trans hW)) gx (HY.out.turned0 (HT2.out.trans hW)) gy) (by omega) (by simp)
      obtain ⟨U, hU⟩ : ∃ z, z = Tm.unify (bt l) 2000 [(x.bare, y.bare)] := ⟨_, rfl⟩
      rw [← hU] at hr hall
      have HALL := Lib.hid hall
      clear hR hU hall gx gy
      have HTT : Hid (∀ W W', Turned (fun _ => False) w2 W → Turned (fun _ => False) W W' → Turned (fun _ => False) w W') := fun W W' h1 h2 => (HT2.out.trans h1).trans h2
      cases U with
      | ok l' left' =>
        have HR := Lib.hid hr
        clear hr
        go_enter Try.func110, Try.ntmps110
        go_wp2_with (first
          | (go_at_call 144; (with_reducible refine (HOY.out _ T3).mono ?_); rintro e w4 ⟨rfl, T4⟩; have HT4 := Lib.hid (T3.trans T4); clear c0 c1 c2 c3 T3 T4)
          | (go_at_call 144; rw [← HW2.out]; (with_reducible refine (HOX.out _ (Turned.refl _ _)).mono ?_); rintro e w3 ⟨rfl, T3⟩; obtain ⟨c0, c1, c2, c3, _⟩ := cells4 (HBX.out _ T3).2)
          | (go_at_call 111; (with_reducible refine (markO111 (HH.out.turned0 (HT2.out.trans HT4.out))).mono ?_); rintro e w5 ⟨rfl, T5⟩; have HT5 := Lib.hid (HT4.out.trans T5); obtain ⟨x0, x1, x2, x3, _⟩ := cells4 (HBX.out _ HT5.out).1; obtain ⟨y0, y1, y2, y3, _⟩ := cells4 (HBX.out _ HT5.out).2; clear T5)
          | (go_at_call 153; (with_reducible refine (HALL.out _ HT5.out).mono ?_); rintro e w6 ⟨rfl, v6, st6, O6, l6, hl6, u6, ho6, T6⟩; have HL6 := Lib.hid hl6; have HU6 := Lib.hid u6; have HO6 := Lib.hid ho6; have HT6 := Lib.hid T6; obtain ⟨k0, k1, k2, _⟩ := u6.kcells; clear hl6 u6 ho6 T6))
        go_region
        go_wp2_with fail
        go_ret3
        rw [HR.out]
        have hw5 : Turned (fun _ => False) w ((w5.alloc (.cells #[.int .i64 x.kind, .int .i64 x.n, .string x.name, .slice x.at_.1 x.args.length x.at_.2, .int .i64 y.kind, .int .i64 y.n, .string y.name, .slice y.at_.1 y.args.length y.at_.2] 187)).alloc (.cells #[.pointer (some ⟨bb, 0, none⟩), .slice (some ⟨w5.heap.size, 0, none⟩) 1 1, .int .i64 0] 190)) := HTT.out _ _ HT5.out (((Turned.refl _ w5).alloc _).alloc _)
        have hsz : w.heap.size ≤ w5.heap.size := (HT2.out.trans HT5.out).size
        exact ⟨rfl, l6, HL6.out, (both_after hw5 hw5 (by omega) (fun g hg => by (simp [Value.ownBlock] at hg; omega)) HU6.out HO6.out HT6.out).turned0 (Turned.refl _ _).drew⟩
      | no q =>
        have HR := Lib.hid hr
        clear hr
        go_enter Try.func110, Try.ntmps110
        go_wp2_with (first
          | (go_at_call 144; (with_reducible refine (HOY.out _ T3).mono ?_); rintro e w4 ⟨rfl, T4⟩; have HT4 := Lib.hid (T3.trans T4); clear c0 c1 c2 c3 T3 T4)
          | (go_at_call 144; rw [← HW2.out]; (with_reducible refine (HOX.out _ (Turned.refl _ _)).mono ?_); rintro e w3 ⟨rfl, T3⟩; obtain ⟨c0, c1, c2, c3, _⟩ := cells4 (HBX.out _ T3).2)
          | (go_at_call 111; (with_reducible refine (markO111 (HH.out.turned0 (HT2.out.trans HT4.out))).mono ?_); rintro e w5 ⟨rfl, T5⟩; have HT5 := Lib.hid (HT4.out.trans T5); obtain ⟨x0, x1, x2, x3, _⟩ := cells4 (HBX.out _ HT5.out).1; obtain ⟨y0, y1, y2, y3, _⟩ := cells4 (HBX.out _ HT5.out).2; clear T5)
          | (go_at_call 153; (with_reducible refine (HALL.out _ HT5.out).mono ?_); rintro e w6 ⟨rfl, v6, st6, O6, l6, hl6, u6, ho6, T6⟩; have HL6 := Lib.hid hl6; have HU6 := Lib.hid u6; have HO6 := Lib.hid ho6; have HT6 := Lib.hid T6; clear hl6 u6 ho6 T6)
          | (go_at_call 101; have hun := undoO101 (n := l.length) HU6.out.bo (by obtain ⟨a, ha⟩ := HL6.out; have := congrArg List.length ha; rw [List.length_append, bt_length, bt_length] at this; omega); (with_reducible refine hun.mono ?_); rintro e w7 ⟨rfl, A7⟩; have HA7 := Lib.hid A7; obtain ⟨k0, k1, k2, _⟩ := (HU6.out.after A7).choose_spec.1.kcells; clear A7 hun))
        go_region
        go_wp2_with fail
        go_ret3
        rw [HR.out]
        have hw5 : Turned (fun _ => False) w ((w5.alloc (.cells #[.int .i64 x.kind, .int .i64 x.n, .string x.name, .slice x.at_.1 x.args.length x.at_.2, .int .i64 y.kind, .int .i64 y.n, .string y.name, .slice y.at_.1 y.args.length y.at_.2] 187)).alloc (.cells #[.pointer (some ⟨bb, 0, none⟩), .slice (some ⟨w5.heap.size, 0, none⟩) 1 1, .int .i64 0] 190)) := HTT.out _ _ HT5.out (((Turned.refl _ w5).alloc _).alloc _)
        have hsz : w.heap.size ≤ w5.heap.size := (HT2.out.trans HT5.out).size
        have h6 := both_after hw5 hw5 (by omega) (fun g hg => by (simp [Value.ownBlock] at hg; omega)) HU6.out HO6.out HT6.out
        refine ⟨rfl, l6.drop (l6.length - l.length), ?_, ?_⟩
        · obtain ⟨a, ha⟩ := HL6.out
          have hlen := congrArg List.length ha
          rw [List.length_append, bt_length, bt_length] at hlen
          show bt _ = bt l
          unfold bt at ha ⊢
          rw [List.map_drop, ha, show l6.length - l.length = a.length from by omega, List.drop_left]
        · obtain ⟨O7, a1, a2, a3⟩ := HA7.out
          obtain ⟨O8, b1, b2, b3⟩ := h6
          have hs6 := hw5.size
          have hs7 := HT6.out.size
          refine After.turned0 (w2 := _) ⟨O7, a1, fun k hk hl => HO6.out k (a2 k hk (by omega)) (by omega), b3.step a3 (fun i hi e => HO6.out i e (by omega))⟩ (Turned.refl _ _).drew
      | over =>
        have HR := Lib.hid hr
        clear hr
        go_enter Try.func110, Try.ntmps110
        go_wp2_with (first
          | (go_at_call 144; (with_reducible refine (HOY.out _ T3).mono ?_); rintro e w4 ⟨rfl, T4⟩; have HT4 := Lib.hid (T3.trans T4); clear c0 c1 c2 c3 T3 T4)
          | (go_at_call 144; rw [← HW2.out]; (with_reducible refine (HOX.out _ (Turned.refl _ _)).mono ?_); rintro e w3 ⟨rfl, T3⟩; obtain ⟨c0, c1, c2, c3, _⟩ := cells4 (HBX.out _ T3).2)
          | (go_at_call 111; (with_reducible refine (markO111 (HH.out.turned0 (HT2.out.trans HT4.out))).mono ?_); rintro e w5 ⟨rfl, T5⟩; have HT5 := Lib.hid (HT4.out.trans T5); obtain ⟨x0, x1, x2, x3, _⟩ := cells4 (HBX.out _ HT5.out).1; obtain ⟨y0, y1, y2, y3, _⟩ := cells4 (HBX.out _ HT5.out).2; clear T5)
          | (go_at_call 153; (with_reducible refine (HALL.out _ HT5.out).mono ?_); rintro e w6 ⟨rfl, v6, st6, c6, O6, l6, hl6, u6, ho6, T6⟩; have HL6 := Lib.hid hl6; have HU6 := Lib.hid u6; have HO6 := Lib.hid ho6; have HT6 := Lib.hid T6; clear hl6 u6 ho6 T6)
          | (go_at_call 101; have hun := undoO101 (n := l.length) HU6.out.bo (by obtain ⟨a, ha⟩ := HL6.out; have := congrArg List.length ha; rw [List.length_append, bt_length, bt_length] at this; omega); (with_reducible refine hun.mono ?_); rintro e w7 ⟨rfl, A7⟩; have HA7 := Lib.hid A7; clear A7 hun))
        go_ret3
        rw [HR.out]
        have hw5 : Turned (fun _ => False) w ((w5.alloc (.cells #[.int .i64 x.kind, .int .i64 x.n, .string x.name, .slice x.at_.1 x.args.length x.at_.2, .int .i64 y.kind, .int .i64 y.n, .string y.name, .slice y.at_.1 y.args.length y.at_.2] 187)).alloc (.cells #[.pointer (some ⟨bb, 0, none⟩), .slice (some ⟨w5.heap.size, 0, none⟩) 1 1, .int .i64 0] 190)) := HTT.out _ _ HT5.out (((Turned.refl _ w5).alloc _).alloc _)
        have hsz : w.heap.size ≤ w5.heap.size := (HT2.out.trans HT5.out).size
        have h6 := both_after hw5 hw5 (by omega) (fun g hg => by (simp [Value.ownBlock] at hg; omega)) HU6.out HO6.out HT6.out
        refine ⟨rfl, l6.drop (l6.length - l.length), ?_, ?_⟩
        · obtain ⟨a, ha⟩ := HL6.out
          have hlen := congrArg List.length ha
          rw [List.length_append, bt_length, bt_length] at hlen
          show bt _ = bt l
          unfold bt at ha ⊢
          rw [List.map_drop, ha, show l6.length - l.length = a.length from by omega, List.drop_left]
        · obtain ⟨O7, a1, a2, a3⟩ := HA7.out
          obtain ⟨O8, b1, b2, b3⟩ := h6
          have hs6 := hw5.size
          have hs7 := HT6.out.size
          refine ⟨O7, a1, fun k hk hl => HO6.out k (a2 k hk (by omega)) (by omega), b3.step a3 (fun i hi e => HO6.out i e (by omega))⟩
end
end Go.Proofs.Ytoihjobdfjajfaa
namespace Go.Proofs.Ytoihjobdfjajfaa
open Go.RowKit Go.Maps
set_option linter.unusedVariables false
set_option linter.unusedSimpArgs false
theorem PairA.after {p O : Nat → Prop} {wb m C : Nat} {l' : Tm.Trail} {w W w' : World} {o : Obj} (T : Turned (fun _ => False) w W) (hC : C = W.heap.size) (h : PairA p wb O C m l' (W.alloc o) w') : AfterD p wb O m l' w w' := by
  obtain ⟨O', a1, a2, a3⟩ := h
  have T1 := T.alloc o
  exact ⟨O', a1, fun k hk hl => a2 k hk (Nat.lt_of_lt_of_le hl T1.size), (T1.mono (fun _ _ f => f.elim) : Turned O w (W.alloc o)).step a3 (fun i hi e => e.elim id (fun e => by have := T.size; omega))⟩
def Both117Q (p : Nat → Prop) (wb : Nat) (O : Nat → Prop) (m : Nat) (w : World) (R : Bool × Int × Int × Tm.Trail) (e : Ending) (w' : World) : Prop :=
  e = .returned (.tuple #[.bool R.1, .int .i64 R.2.1, .int .i64 R.2.2.1]) ∧ AfterD p wb O m R.2.2.2 w w'
theorem DO.afterSame {p O : Nat → Prop} {wb m : Nat} {l : Tm.Trail} {w w' : World} (h : DO p wb O m l w) (T : Turned (fun _ => False) w w') : AfterD p wb O m l w w' :=
  ⟨O, h.turned0 T, fun _ h _ => h, T.mono (fun _ _ f => f.elim)⟩
theorem undoPair {p O : Nat → Prop} {wb m C : Nat} {l a : Tm.Trail} {w W w5 : World} {o q : Obj} (h : DO p wb O m l w) (T : Turned (fun _ => False) w W) (hC : C = W.heap.size) (ha : PairA p wb O C m (a ++ l) (W.alloc o) w5) (hq : w5.heap[C]? = some q) :
    Calls Try.prog 102 #[.pointer (some ⟨wb, 0, none⟩), .int .i64 (l.length : Int)] w5 fun e w' => e = .returned (.bool true) ∧ AfterD p wb O m l w w' ∧ w'.heap[C]? = some q := by
  have hA := PairA.after T hC ha
  obtain ⟨O', a1, a2, a3⟩ := ha
  have hlen : l.length ≤ (a ++ l).length := by rw [List.length_append]; omega
  refine (undoD a1 l.length hlen).mono ?_
  rintro e w' ⟨rfl, hu⟩
  rw [show (a ++ l).length - l.length = a.length by rw [List.length_append]; omega, List.drop_left] at hu
  obtain ⟨O2, b1, b2, b3⟩ := hu
  have hOC : ¬ O' C := fun c => by
    have := h.lt C (a2 C c (by rw [hC]; show W.heap.size < (W.heap.push o).size; rw [Array.size_push]; omega))
    have := T.size
    omega
  refine ⟨rfl, ⟨O2, b1, fun k hk hl => a2 k (b2 k hk (Nat.lt_of_lt_of_le hl (Nat.le_trans (T.alloc o).size a3.size))) (Nat.lt_of_lt_of_le hl (T.alloc o).size), ?_⟩, (b3.block C (Array.getElem?_eq_some_iff.1 hq).1 hOC).trans hq⟩
  exact (((T.alloc o).mono (fun _ _ f => f.elim) : Turned O w (W.alloc o)).step a3 (fun i hi e => e.elim id (fun e => by have := T.size; omega))).step b3 (fun i hi e => a2 i e (Nat.lt_of_lt_of_le hi (T.alloc o).size))
set_option maxRecDepth 100000 in
set_option maxHeartbeats 6400000 in
theorem both117 {p O : Nat → Prop} {wb m : Nat} {l : Tm.Trail} {w : World} {x y : LT} (h : DO p wb O m l w) (hx : x.In p w) (hy : y.In p w) :
    Calls Try.prog 117 #[.pointer (some ⟨wb, 0, none⟩), x.val, y.val] w (Both117Q p wb O m w (bothR m l x.bare y.bare)) := by
  have h2 := twoBox w (.cells #[.int .i64 x.kind, .int .i64 x.n, .string x.name, .slice x.at_.1 x.args.length x.at_.2] 41) (.cells #[.int .i64 y.kind, .int .i64 y.n, .string y.name, .slice y.at_.1 y.args.length y.at_.2] 41)
  obtain ⟨w2, hw2⟩ : ∃ z, z = (w.alloc (.cells #[.int .i64 x.kind, .int .i64 x.n, .string x.name, .slice x.at_.1 x.args.length x.at_.2] 41)).alloc (.cells #[.int .i64 y.kind, .int .i64 y.n, .string y.name, .slice y.at_.1 y.args.length y.at_.2] 41) := ⟨_, rfl⟩
  rw [← hw2] at h2
  have hbx : ∀ W, Turned (fun _ => False) w2 W → W.heap[w.heap.size]? = some (.cells #[.int .i64 x.kind, .int .i64 x.n, .string x.name, .slice x.at_.1 x.args.length x.at_.2] 41 (0, 0)) ∧ W.heap[w.heap.size + 1]? = some (.cells #[.int .i64 y.kind, .int .i64 y.n, .string y.name, .slice y.at_.1 y.args.length y.at_.2] 41 (0, 0)) := fun W hW => ⟨(hW.block _ (by have := h2.2.1; omega) (fun f => f)).trans h2.2.2.1, (hW.block _ (by have := h2.2.1; omega) (fun f => f)).trans h2.2.2.2⟩
  have hkx := fun W (hW : Turned (fun _ => False) w2 W) => known99 (h.turned0 (h2.1.trans hW)) (hx.turned0 (h2.1.trans hW))
  have hky := fun W (hW : Turned (fun _ => False) w2 W) => known99 (h.turned0 (h2.1.trans hW)) (hy.turned0 (h2.1.trans hW))
  rw [← ownB_bare] at hkx hky
  have hpa : Tm.ownB m x.bare = true → Tm.ownB m y.bare = true → ∀ W, Turned (fun _ => False) w2 W → Calls Try.prog 156 #[.pointer (some ⟨wb, 0, none⟩), x.val, y.val, .pointer (some ⟨W.heap.size, 0, none⟩)] (W.alloc (.cells #[.int .i64 0] 3)) (PairQ p wb O W.heap.size m l (W.alloc (.cells #[.int .i64 0] 3)) (Tm.unify l 2000 [(x.bare, y.bare)])) := fun g1 g2 W hW =>
    pair156 2001 O l x y 0 _ (by omega) (by omega) (h.turned0 ((h2.1.trans hW).alloc _)) (hx.turned0 ((h2.1.trans hW).alloc _)) g1 (hy.turned0 ((h2.1.trans hW).alloc _)) g2 (heap_alloc_new W _) (h.alloc (h2.1.trans hW)).1 (h.alloc (h2.1.trans hW)).2
  have hdb : ∃ (ta ia ra : Option Addr) (tc ic rc : Nat), ∀ W, Turned (fun _ => False) w2 W → W.heap[wb]? = some (.cells #[.slice ta m tc, .slice ia m ic, .slice ra l.length rc] 113 (0, 0)) := by
    obtain ⟨ta, ia, ra, tc, ic, rc, us, is, D, R, hlu, hli, hO⟩ := h.parts
    exact ⟨ta, ia, ra, tc, ic, rc, fun W hW => (D.turned0 (h2.1.trans hW)).b⟩
  obtain ⟨ta, ia, ra, tc, ic, rc, hdb⟩ := hdb
  rw [LT.val_eq x] at hkx hpa ⊢
  rw [LT.val_eq y] at hky hpa ⊢
  have hwl := h.lt wb (by obtain ⟨ta, ia, ra, tc, ic, rc, us, is, D, R, hlu, hli, hO⟩ := h.parts; exact hO wb (.inl rfl))
  have HH := Lib.hid h
  have HT2 := Lib.hid h2.1
  have HW2 := Lib.hid hw2
  have HBX := Lib.hid hbx
  have HDB := Lib.hid hdb
  obtain ⟨R, hR⟩ : ∃ z, z = bothR m l x.bare y.bare := ⟨_, rfl⟩
  rw [← hR]
  unfold bothR at hR
  clear h hx hy h2 hw2 hbx hdb
  cases ox : Tm.ownB m x.bare with
  | false =>
    rw [ox] at hkx hR
    have HRE : Hid (R = (false, 0, 1, l)) := Lib.hid (by rw [hR, if_neg (by simp)])
    have HKX := Lib.hid hkx
    clear hkx hky hpa hR ox
    go_enter Try.func117, Try.ntmps117
    go_wp2_with (go_at_call 99; rw [← HW2.out]; (with_reducible refine (HKX.out _ (Turned.refl _ _)).mono ?_); rintro e w3 ⟨rfl, T3⟩; obtain ⟨c0, c1, c2, c3, _⟩ := cells4 (HBX.out w3 T3).1; obtain ⟨d0, d1, d2, d3, _⟩ := cells4 (HBX.out w3 T3).2; have HT3 := Lib.hid T3; clear T3)
    go_ret3
    rw [HRE.out]
    exact ⟨rfl, HH.out.afterSame (HT2.out.trans HT3.out)⟩
  | true =>
    rw [ox] at hkx hR
    have hpa := hpa ox
    cases oy : Tm.ownB m y.bare with
    | false =>
      rw [oy] at hky hR
      have HRE : Hid (R = (false, 0, 1, l)) := Lib.hid (by rw [hR, if_neg (by simp)])
      have HKX := Lib.hid hkx
      have HKY := Lib.hid hky
      clear hkx hky hpa hR ox oy
      go_enter Try.func117, Try.ntmps117
      go_wp2_with (first
        | (go_at_call 99; have HT3 := HT3; (with_reducible refine (HKY.out _ HT3.out).mono ?_); rintro e w4 ⟨rfl, T4⟩; have T4' := HT3.out.trans T4; obtain ⟨b0, b1, b2, _⟩ := rec3b (HDB.out w4 T4'); obtain ⟨m0, m1, m2, m3, _⟩ := cells4 (HBX.out _ (T4'.alloc (.cells #[.int .i64 0] 3))).1; obtain ⟨n0, n1, n2, n3, _⟩ := cells4 (HBX.out _ (T4'.alloc (.cells #[.int .i64 0] 3))).2; have HT4 := Lib.hid T4'; clear T4 T4')
        | (go_at_call 99; rw [← HW2.out]; (with_reducible refine (HKX.out _ (Turned.refl _ _)).mono ?_); rintro e w3 ⟨rfl, T3⟩; obtain ⟨c0, c1, c2, c3, _⟩ := cells4 (HBX.out w3 T3).1; obtain ⟨d0, d1, d2, d3, _⟩ := cells4 (HBX.out w3 T3).2; have HT3 := Lib.hid T3; clear T3))
      go_ret3
      rw [HRE.out]
      exact ⟨rfl, HH.out.afterSame (HT2.out.trans HT4.out)⟩
    | true =>
      rw [oy] at hky hR
      have hpa := hpa oy
      rw [if_pos ⟨rfl, rfl⟩] at hR
      have HKX := Lib.hid hkx
      have HKY := Lib.hid hky
      have HPA := Lib.hid hpa
      clear hkx hky hpa ox oy
      cases hU : Tm.unify l 2000 [(x.bare, y.bare)] with
      | ok l' left' =>
        rw [hU] at hR HPA
        have HRE := Lib.hid hR
        clear hR hU
        go_enter Try.func117, Try.ntmps117
        go_wp2_with (first
          | (go_at_call 156; have HT4 := HT4; (with_reducible refine (HPA.out _ HT4.out).mono ?_); rintro e w5 ⟨rfl, ha, c', hq, hcc⟩; obtain ⟨p0, p1⟩ := int1 hq; have d1 : decide ((2000 : Int) < (c' : Int)) = false := decide_eq_false (by omega); have HA := Lib.hid ha; have HCC := Lib.hid hcc; clear ha hq hcc)
          | (go_at_call 99; have HT3 := HT3; (with_reducible refine (HKY.out _ HT3.out).mono ?_); rintro e w4 ⟨rfl, T4⟩; have T4' := HT3.out.trans T4; obtain ⟨b0, b1, b2, _⟩ := rec3b (HDB.out w4 T4'); obtain ⟨m0, m1, m2, m3, _⟩ := cells4 (HBX.out _ (T4'.alloc (.cells #[.int .i64 0] 3))).1; obtain ⟨n0, n1, n2, n3, _⟩ := cells4 (HBX.out _ (T4'.alloc (.cells #[.int .i64 0] 3))).2; have HT4 := Lib.hid T4'; clear T4 T4')
          | (go_at_call 99; rw [← HW2.out]; (with_reducible refine (HKX.out _ (Turned.refl _ _)).mono ?_); rintro e w3 ⟨rfl, T3⟩; obtain ⟨c0, c1, c2, c3, _⟩ := cells4 (HBX.out w3 T3).1; obtain ⟨d0, d1, d2, d3, _⟩ := cells4 (HBX.out w3 T3).2; have HT3 := Lib.hid T3; clear T3))
        go_quiet (fail)
        go_wp2_with fail
        go_ret3
        rw [HRE.out]
        refine ⟨?_, (PairA.after (HT2.out.trans HT4.out) rfl HA.out).turned0 ((Turned.refl _ w5).drewN nq)⟩
        have := HCC.out
        show Ending.returned (.tuple #[.bool true, .int .i64 (c' : Int), .int .i64 0]) = .returned (.tuple #[.bool true, .int .i64 (2000 - (left' : Int)), .int .i64 0])
        rw [show (2000 - (left' : Int)) = (c' : Int) by omega]
      | no q =>
        rw [hU] at hR HPA
        have HRE := Lib.hid hR
        clear hR hU
        go_enter Try.func117, Try.ntmps117
        go_wp2_with (first
          | (go_at_call 102; have HQ5 := HQ5; (with_reducible refine (undoPair HH.out (HT2.out.trans HT4.out) rfl HPX.out HQ5.out).mono ?_); rintro e w6 ⟨rfl, hb, hq6⟩; obtain ⟨r0, r1⟩ := int1 hq6; have HB := Lib.hid hb; clear hb hq6)
          | (go_at_call 156; have HT4 := HT4; (with_reducible refine (HPA.out _ HT4.out).mono ?_); rintro e w5 ⟨rfl, AL, c', ha, hq, hcc⟩; obtain ⟨p0, p1⟩ := int1 hq; have d1 : decide ((2000 : Int) < (c' : Int)) = false := decide_eq_false (by omega); have HPX := Lib.hid ha; have HQ5 := Lib.hid hq; have HCC := Lib.hid hcc; clear ha hq hcc)
          | (go_at_call 99; have HT3 := HT3; (with_reducible refine (HKY.out _ HT3.out).mono ?_); rintro e w4 ⟨rfl, T4⟩; have T4' := HT3.out.trans T4; obtain ⟨b0, b1, b2, _⟩ := rec3b (HDB.out w4 T4'); obtain ⟨m0, m1, m2, m3, _⟩ := cells4 (HBX.out _ (T4'.alloc (.cells #[.int .i64 0] 3))).1; obtain ⟨n0, n1, n2, n3, _⟩ := cells4 (HBX.out _ (T4'.alloc (.cells #[.int .i64 0] 3))).2; have HT4 := Lib.hid T4'; clear T4 T4')
          | (go_at_call 99; rw [← HW2.out]; (with_reducible refine (HKX.out _ (Turned.refl _ _)).mono ?_); rintro e w3 ⟨rfl, T3⟩; obtain ⟨c0, c1, c2, c3, _⟩ := cells4 (HBX.out w3 T3).1; obtain ⟨d0, d1, d2, d3, _⟩ := cells4 (HBX.out w3 T3).2; have HT3 := Lib.hid T3; clear T3))
        go_quiet (fail)
        go_wp2_with fail
        go_ret3
        rw [HRE.out]
        refine ⟨?_, HB.out.turned0 ((Turned.refl _ w6).drewN nq)⟩
        have := HCC.out
        show Ending.returned (.tuple #[.bool false, .int .i64 (c' : Int), .int .i64 0]) = .returned (.tuple #[.bool false, .int .i64 (2000 - (q : Int)), .int .i64 0])
        rw [show (2000 - (q : Int)) = (c' : Int) by omega]
      | over =>
        rw [hU] at hR HPA
        have HRE := Lib.hid hR
        clear hR hU
        go_enter Try.func117, Try.ntmps117
        go_wp2_with (first
          | (go_at_call 102; have HQ5 := HQ5; (with_reducible refine (undoPair HH.out (HT2.out.trans HT4.out) rfl HPX.out HQ5.out).mono ?_); rintro e w6 ⟨rfl, hb, hq6⟩; obtain ⟨r0, r1⟩ := int1 hq6; have HB := Lib.hid hb; clear hb hq6)
          | (go_at_call 156; have HT4 := HT4; (with_reducible refine (HPA.out _ HT4.out).mono ?_); rintro e w5 ⟨rfl, AL, c', ha, hq, hcc⟩; obtain ⟨p0, p1⟩ := int1 hq; have d1 : decide ((2000 : Int) < (c' : Int)) = true := decide_eq_true (by omega); have HPX := Lib.hid ha; have HQ5 := Lib.hid hq; have HCC := Lib.hid hcc; clear ha hq hcc)
          | (go_at_call 99; have HT3 := HT3; (with_reducible refine (HKY.out _ HT3.out).mono ?_); rintro e w4 ⟨rfl, T4⟩; have T4' := HT3.out.trans T4; obtain ⟨b0, b1, b2, _⟩ := rec3b (HDB.out w4 T4'); obtain ⟨m0, m1, m2, m3, _⟩ := cells4 (HBX.out _ (T4'.alloc (.cells #[.int .i64 0] 3))).1; obtain ⟨n0, n1, n2, n3, _⟩ := cells4 (HBX.out _ (T4'.alloc (.cells #[.int .i64 0] 3))).2; have HT4 := Lib.hid T4'; clear T4 T4')
          | (go_at_call 99; rw [← HW2.out]; (with_reducible refine (HKX.out _ (Turned.refl _ _)).mono ?_); rintro e w3 ⟨rfl, T3⟩; obtain ⟨c0, c1, c2, c3, _⟩ := cells4 (HBX.out w3 T3).1; obtain ⟨d0, d1, d2, d3, _⟩ := cells4 (HBX.out w3 T3).2; have HT3 := Lib.hid T3; clear T3))
        go_ret3
        rw [HRE.out]
        exact ⟨rfl, HB.out⟩
end Go.Proofs.Ytoihjobdfjajfaa
namespace Go.Proofs.Ytoihjobdfjajfaa
set_option linter.unusedVariables false
set_option linter.unusedSimpArgs false
open Go.RowKit Go.Maps
set_option maxRecDepth 100000 in
set_option maxHeartbeats 3200000 in
theorem rFrom80 {p : Nat → Prop} {t : LT} {w : World} {first : Int} (ht : t.In p w) (hf : I64 first) :
    Calls Try.prog 80 #[t.val, .int .i64 first] w fun e w' => ∃ (u : LT) (m er : Int), e = .returned (.tuple #[u.val, .int .i64 m, .int .i64 er]) ∧ FromR t.bare first u.bare m er ∧ u.In (fun k => p k ∨ w.heap.size ≤ k) w' ∧ Turned (fun _ => False) w w' := by
  have h2 := twoBox w (.cells #[.int .i64 t.kind, .int .i64 t.n, .string t.name, .slice t.at_.1 t.args.length t.at_.2] 41) (.cells #[.int .i64 0, .int .i64 0, .string ⟨#[]⟩, .slice none 0 0] 41)
  have hgo := rGood45 (ht.turned0 h2.1)
  obtain ⟨hf1, hf2⟩ := hf
  have H2 := Lib.hid h2
  obtain ⟨p', hp'⟩ : ∃ q : Nat → Prop, q = fun k => p k ∧ k < w.heap.size := ⟨_, rfl⟩
  have HPL : Hid (∀ k, p' k → p k ∧ k < w.heap.size) := by intro k hq; rw [hp'] at hq; exact hq
  have ht' : t.In p' w := ht.mono (fun k hk h => by rw [hp']; exact ⟨h, hk⟩)
  have HIN := Lib.hid ht'
  clear hp' ht'
  rw [LT.val_eq] at hgo ⊢
  clear ht h2
  have hboxes : ∀ W, Turned (fun _ => False) ((w.alloc (.cells #[.int .i64 t.kind, .int .i64 t.n, .string t.name, .slice t.at_.1 t.args.length t.at_.2] 41)).alloc (.cells #[.int .i64 0, .int .i64 0, .string ⟨#[]⟩, .slice none 0 0] 41)) W →
      W.heap[w.heap.size]? = some (.cells #[.int .i64 t.kind, .int .i64 t.n, .string t.name, .slice t.at_.1 t.args.length t.at_.2] 41 (0, 0)) ∧ W.heap[w.heap.size + 1]? = some (.cells #[.int .i64 0, .int .i64 0, .string ⟨#[]⟩, .slice none 0 0] 41 (0, 0)) := fun W h =>
    ⟨(h.block _ (Array.getElem?_eq_some_iff.1 H2.out.2.2.1).1 (fun f => f)).trans H2.out.2.2.1, (h.block _ (Array.getElem?_eq_some_iff.1 H2.out.2.2.2).1 (fun f => f)).trans H2.out.2.2.2⟩
  have HBX := Lib.hid hboxes
  clear hboxes
  have fin : ∀ W, Turned (fun _ => False) ((w.alloc (.cells #[.int .i64 t.kind, .int .i64 t.n, .string t.name, .slice t.at_.1 t.args.length t.at_.2] 41)).alloc (.cells #[.int .i64 0, .int .i64 0, .string ⟨#[]⟩, .slice none 0 0] 41)) W →
      W.heap[w.heap.size + 1]? = some (.cells #[.int .i64 0, .int .i64 0, .string ⟨#[]⟩, .slice none 0 0] 41 (0, 0)) ∧
      ((((W.setCell ⟨w.heap.size + 1, 0, none⟩ (.int .i64 0)).setCell ⟨w.heap.size + 1, 1, none⟩ (.int .i64 0)).setCell ⟨w.heap.size + 1, 2, none⟩ (.string ⟨#[]⟩)).setCell ⟨w.heap.size + 1, 3, none⟩ (.slice none 0 0)).heap[w.heap.size + 1]? = some (.cells #[.int .i64 0, .int .i64 0, .string ⟨#[]⟩, .slice none 0 0] 41 (0, 0)) ∧
      Turned (fun _ => False) w ((((W.setCell ⟨w.heap.size + 1, 0, none⟩ (.int .i64 0)).setCell ⟨w.heap.size + 1, 1, none⟩ (.int .i64 0)).setCell ⟨w.heap.size + 1, 2, none⟩ (.string ⟨#[]⟩)).setCell ⟨w.heap.size + 1, 3, none⟩ (.slice none 0 0)) := fun W h => by
    obtain ⟨_, b1⟩ := HBX.out W h
    exact ⟨b1, set4 b1, turned4 (H2.out.1.trans h) (by omega)⟩
  have FIN := Lib.hid fin
  clear fin
  by_cases hall : goodB t = true ∧ 0 ≤ first ∧ first ≤ 2147483647
  · obtain ⟨hg, h0, h1⟩ := hall
    have hvars := fun W (h : Turned (fun _ => False) w W) => rVars51 (HIN.out.turned0 h)
    rw [LT.val_eq] at hvars
    have ev : varsB t = t.vars := by unfold varsB; rw [if_pos hg]
    have hle : t.vars.length ≤ 2000 := by have := varsB_le t; rw [ev] at this; exact this
    rw [ev] at hvars
    obtain ⟨vs, hvs⟩ : ∃ z, z = t.vars := ⟨_, rfl⟩
    rw [← hvs] at hvars hle
    have HV := Lib.hid hvars
    have HVS := Lib.hid hvs
    have HG := Lib.hid hg
    rw [hg] at hgo
    have HGO := Lib.hid hgo
    have hnum : ∀ x ∈ t.flat, x.kind = 0 → x.n ∈ vs := fun x hx hk => by
      rw [hvs, ← Tm.vars_bare]
      exact (Tm.vars_mem x.n).2 ⟨x.bare, by rw [Tm.flat_bare]; exact List.mem_map_of_mem hx, by rw [Tm.bare_kind]; exact hk, Tm.bare_n x⟩
    have HNUM := Lib.hid hnum
    clear hgo hvars hvs hg ev hnum
    have d1 : decide (first < 0) = false := decide_eq_false (by omega)
    have d2 : decide (first ≥ 2147483648) = false := decide_eq_false (by omega)
    have d2' : decide (2147483648 ≤ first) = false := decide_eq_false (by omega)
    by_cases hov : first + (vs.length : Int) ≤ 2147483648
    · have d3 : decide (2147483648 < first + (vs.length : Int)) = false := decide_eq_false (by omega)
      have HREN := Lib.hid (fun va vc W (h : Turned (fun _ => False) w W) hrow => rename140 (va := va) (vc := vc) h0 (by omega) hle t.depth p' t W (Nat.le_refl _) (HIN.out.turned0 h) (good_ones HG.out) HNUM.out hrow)
      rw [LT.val_eq t] at HREN
      go_enter Try.func80, Try.ntmps80
      go_wp2_with (first
        | (go_at_call 45; (with_reducible refine HGO.out.mono ?_); rintro e w3 ⟨rfl, T3⟩; obtain ⟨b0, b1⟩ := HBX.out _ T3; obtain ⟨c0, c1, c2, c3, _⟩ := cells4 b0; clear b0 b1)
        | (go_at_call 51; (with_reducible refine (HV.out _ (H2.out.1.trans T3)).mono ?_); rintro e w4 ⟨v, rfl, hrow, hown, T4⟩; obtain ⟨va, vc, rfl⟩ := hrow.shape; obtain ⟨b0, b1⟩ := HBX.out _ (T3.trans T4); obtain ⟨g0, g1, g2, g3, _⟩ := cells4 b0; have hmx := hrow.max; have HROW := Lib.hid hrow; have TT := H2.out.1.trans (T3.trans T4); clear b0 b1 hrow)
        | (go_at_call 140; (with_reducible refine (HREN.out va vc _ TT HROW.out).mono ?_); rintro e w5 ⟨u, rfl, hub, hui, T5⟩; rw [LT.val_eq u]; obtain ⟨b0, b1⟩ := HBX.out _ ((T3.trans T4).trans T5); obtain ⟨_, _, _, _, f0, f1, f2, f3⟩ := cells4 b1; have HB1 := Lib.hid b1; have HU := Lib.hid (And.intro hub hui); clear b0 b1 hub hui))
      have hset := set4 (a' := .int .i64 u.kind) (b' := .int .i64 u.n) (c' := .string u.name) (d' := .slice u.at_.1 u.args.length u.at_.2) HB1.out
      have T4' := turned4 (a := .int .i64 u.kind) (b := .int .i64 u.n) (c := .string u.name) (d := .slice u.at_.1 u.args.length u.at_.2) (TT.trans T5) (g := w.heap.size + 1) (by omega)
      refine bodyPost_ret (results_cell_tmp2 Try.results80 _ _ (w.heap.size + 1) 41 _ (0, 0) _ rfl hset Try.underlying41 rfl (by kernel_rfl)) rfl ⟨u, first + (vs.length : Int), 0, by rw [LT.val_eq u]; rfl, ?_, ?_, T4'⟩
      · unfold FromR
        rw [if_pos ⟨by rw [goodB_bare]; exact HG.out, h0, h1⟩, Tm.vars_bare, ← HVS.out, if_pos hov]
        refine ⟨rfl, rfl, ?_⟩
        rw [HU.out.1, HVS.out]
        unfold Tm.fromT
        rw [Tm.vars_bare]
      · have Tq : Turned (fun k => k = w.heap.size + 1) w5 _ := ((((Turned.refl (fun k => k = w.heap.size + 1) w5).setCell (p := ⟨w.heap.size + 1, 0, none⟩) (.inr rfl) (.int .i64 u.kind)).setCell (p := ⟨w.heap.size + 1, 1, none⟩) (.inr rfl) (.int .i64 u.n)).setCell (p := ⟨w.heap.size + 1, 2, none⟩) (.inr rfl) (.string u.name)).setCell (p := ⟨w.heap.size + 1, 3, none⟩) (.inr rfl) (.slice u.at_.1 u.args.length u.at_.2)
        have hpl := HPL.out
        have hsz : w.heap.size + 2 ≤ w4.heap.size := by have := (T3.trans T4).size; have := H2.out.2.1; omega
        refine LT.In.turned Tq (fun k _ hk e => ?_) (fun k _ hk => ?_) u HU.out.2
        · rcases hk with h | h
          · have := (hpl k h).2; omega
          · omega
        · rcases hk with h | h
          · exact .inl (hpl k h).1
          · exact .inr (by omega)
    · have d3 : decide (2147483648 < first + (vs.length : Int)) = true := decide_eq_true (by omega)
      go_enter Try.func80, Try.ntmps80
      go_wp2_with (first
        | (go_at_call 45; (with_reducible refine HGO.out.mono ?_); rintro e w3 ⟨rfl, T3⟩; obtain ⟨b0, b1⟩ := HBX.out _ T3; obtain ⟨c0, c1, c2, c3, _⟩ := cells4 b0; clear b0 b1)
        | (go_at_call 51; (with_reducible refine (HV.out _ (H2.out.1.trans T3)).mono ?_); rintro e w4 ⟨v, rfl, hrow, hown, T4⟩; obtain ⟨va, vc, rfl⟩ := hrow.shape; have hmx := hrow.max; obtain ⟨b1, hset, T4'⟩ := FIN.out _ (T3.trans T4); obtain ⟨d0, d1, d2, d3, f0, f1, f2, f3⟩ := cells4 b1; have HSET := Lib.hid hset; clear hset b1 hrow))
      refine bodyPost_ret (results_cell_tmp2 Try.results80 _ _ (w.heap.size + 1) 41 _ (0, 0) _ rfl HSET.out Try.underlying41 rfl (by kernel_rfl)) rfl ⟨leaf 0 0 ByteArray.empty, 0, 3, rfl, ?_, vtIn, T4'⟩
      unfold FromR
      rw [if_pos ⟨by rw [goodB_bare]; exact HG.out, h0, h1⟩, Tm.vars_bare, ← HVS.out, if_neg (by omega)]
      exact ⟨rfl, rfl, rfl⟩
  · have hbad : ∀ (u : Tm Unit) (m er : Int), FromR t.bare first u m er = (er = 1 ∧ m = 0 ∧ u = Tm.V 0) := fun u m er => by
      unfold FromR
      rw [if_neg (by rw [goodB_bare]; exact hall)]
    have HBAD := Lib.hid hbad
    clear hbad
    cases hg : goodB t with
    | false =>
      rw [hg] at hgo
      have HGO := Lib.hid hgo
      clear hgo hg hall
      go_enter Try.func80, Try.ntmps80
      go_wp2_with (go_at_call 45; (with_reducible refine HGO.out.mono ?_); rintro e w3 ⟨rfl, T3⟩; obtain ⟨b1, hset, T4⟩ := FIN.out _ T3; obtain ⟨d0, d1, d2, d3, f0, f1, f2, f3⟩ := cells4 b1; have HSET := Lib.hid hset; clear hset b1)
      refine bodyPost_ret (results_cell_tmp2 Try.results80 _ _ (w.heap.size + 1) 41 _ (0, 0) _ rfl HSET.out Try.underlying41 rfl (by kernel_rfl)) rfl ⟨leaf 0 0 ByteArray.empty, 0, 1, rfl, ?_, vtIn, T4⟩
      rw [HBAD.out]
      exact ⟨rfl, rfl, rfl⟩
    | true =>
      rw [hg] at hgo
      have HGO := Lib.hid hgo
      have hout : first < 0 ∨ 2147483647 < first := by
        rcases Int.lt_or_le first 0 with h | h
        · exact .inl h
        · rcases Int.lt_or_le 2147483647 first with h' | h'
          · exact .inr h'
          · exact absurd ⟨hg, h, h'⟩ hall
      clear hgo hg hall
      rcases hout with hout | hout
      · have d1 : decide (first < 0) = true := decide_eq_true hout
        go_enter Try.func80, Try.ntmps80
        go_wp2_with (go_at_call 45; (with_reducible refine HGO.out.mono ?_); rintro e w3 ⟨rfl, T3⟩; obtain ⟨b1, hset, T4⟩ := FIN.out _ T3; obtain ⟨d0, d1, d2, d3, f0, f1, f2, f3⟩ := cells4 b1; have HSET := Lib.hid hset; clear hset b1)
        refine bodyPost_ret (results_cell_tmp2 Try.results80 _ _ (w.heap.size + 1) 41 _ (0, 0) _ rfl HSET.out Try.underlying41 rfl (by kernel_rfl)) rfl ⟨leaf 0 0 ByteArray.empty, 0, 1, rfl, ?_, vtIn, T4⟩
        rw [HBAD.out]
        exact ⟨rfl, rfl, rfl⟩
      · have d1 : decide (first < 0) = false := decide_eq_false (by omega)
        have d2 : decide (2147483648 ≤ first) = true := decide_eq_true (by omega)
        go_enter Try.func80, Try.ntmps80
        go_wp2_with (go_at_call 45; (with_reducible refine HGO.out.mono ?_); rintro e w3 ⟨rfl, T3⟩; obtain ⟨b1, hset, T4⟩ := FIN.out _ T3; obtain ⟨d0, d1, d2, d3, f0, f1, f2, f3⟩ := cells4 b1; have HSET := Lib.hid hset; clear hset b1)
        refine bodyPost_ret (results_cell_tmp2 Try.results80 _ _ (w.heap.size + 1) 41 _ (0, 0) _ rfl HSET.out Try.underlying41 rfl (by kernel_rfl)) rfl ⟨leaf 0 0 ByteArray.empty, 0, 1, rfl, ?_, vtIn, T4⟩
        rw [HBAD.out]
        exact ⟨rfl, rfl, rfl⟩
end Go.Proofs.Ytoihjobdfjajfaa
namespace Go.Proofs.Ytoihjobdfjajfaa
set_option linter.unusedVariables false
set_option linter.unusedSimpArgs false
open Go.RowKit Go.Maps
set_option maxRecDepth 100000 in
set_option maxHeartbeats 3200000 in
theorem replace174 {mb mn : Nat} {g : Int → Option LT} (n : Nat) : ∀ (p : Nat → Prop) (t : LT) (w : World), t.depth ≤ n → t.In p w → slim t → IMap Try.prog 2 w mb mn (valsM g) → (∀ i x, g i = some x → x.In p w) → (∀ x ∈ t.flat, x.kind = 0 → ∃ y, g x.n = some y) →
    Calls Try.prog 174 #[t.val, .map (some mb)] w fun e w' => ∃ u : LT, e = .returned u.val ∧ u.bare = Tm.subF (baresM g) t.bare ∧ u.In (fun k => p k ∨ w.heap.size ≤ k) w' ∧ Turned (fun _ => False) w w' := by
  induction n with
  | zero => intro p t w h; have := Tm.depth_pos t; omega
  | succ n ih =>
    intro p t w hd ht hsl hm hgi hall
    obtain ⟨i0, hi0, hz0, hz1, hz2⟩ := info_parts infoT
    by_cases hk : t.kind = 0
    · have k0 : (t.kind == 0) = true := by simp [hk]
      have ht1 : (I64 t.n) := ht.n
      have w2 : Turned (fun _ => False) w ((w.alloc (.cells #[.int .i64 t.kind, .int .i64 t.n, .string t.name, .slice t.at_.1 t.args.length t.at_.2] 27)).alloc (.cells #[.int .i64 0, .int .i64 0, .string ⟨#[]⟩, .slice none 0 0] 27)) := ((Turned.refl _ w).alloc _).alloc _
      have hb1 := heap_alloc2_new w (.cells #[.int .i64 t.kind, .int .i64 t.n, .string t.name, .slice t.at_.1 t.args.length t.at_.2] 27) (.cells #[.int .i64 0, .int .i64 0, .string ⟨#[]⟩, .slice none 0 0] 27)
      obtain ⟨x, hgx⟩ := hall t (by rw [Tm.flat_eq]; exact List.mem_cons_self ..) hk
      have hlk := (hm.turned w2 (fun f => f)).look law2 Try.underlying151 (zero27 _) (key2 ht1)
      have hsub : Tm.subF (baresM g) t.bare = x.bare := by rw [mk_bare t, Tm.subF, if_pos hk, baresM_some hgx]; rfl
      have HSUB := Lib.hid hsub
      have HGI := Lib.hid (hgi _ _ hgx)
      unfold valsM at hlk
      rw [hgx] at hlk
      simp only [Option.map_some, Option.getD_some] at hlk
      rw [LT.val_eq x] at hlk
      clear hsub ht hgi w2 hd hsl hm ih hall hgx hk hb1
      rw [LT.val_eq t]
      go_enter Try.func174, Try.ntmps174
      go_wp2_with fail
      have h3 := heap_alloc2_new w (.cells #[.int .i64 t.kind, .int .i64 t.n, .string t.name, .slice t.at_.1 t.args.length t.at_.2] 27) (.cells #[.int .i64 x.kind, .int .i64 x.n, .string x.name, .slice x.at_.1 x.args.length x.at_.2] 27)
      have T4 : Turned (fun _ => False) w ((w.alloc (.cells #[.int .i64 t.kind, .int .i64 t.n, .string t.name, .slice t.at_.1 t.args.length t.at_.2] 27)).alloc (.cells #[.int .i64 x.kind, .int .i64 x.n, .string x.name, .slice x.at_.1 x.args.length x.at_.2] 27)) := ((Turned.refl _ w).alloc _).alloc _
      refine bodyPost_ret (v := .agg #[.int .i64 x.kind, .int .i64 x.n, .string x.name, .slice x.at_.1 x.args.length x.at_.2]) (results_cell_row Try.results174 _ _ (w.heap.size + 1) 27 _ (0, 0) _ rfl h3 Try.underlying27 rfl (by kernel_rfl)) rfl ⟨x, by rw [LT.val_eq x], HSUB.out.symm, (HGI.out.turned0 T4).mono (fun k _ h => .inl h), T4⟩
    · have k0 : (t.kind == 0) = false := by simp [hk]
      obtain ⟨p', hp'⟩ : ∃ q : Nat → Prop, q = fun k => p k ∧ k < w.heap.size := ⟨_, rfl⟩
      have HPL0 : Hid (∀ k, p' k → p k ∧ k < w.heap.size) := by intro k hq; rw [hp'] at hq; exact hq
      have ht' : t.In p' w := ht.mono (fun k hk h => by rw [hp']; exact ⟨h, hk⟩)
      have hgi' : ∀ i x, g i = some x → x.In p' w := fun i x hx => (hgi i x hx).mono (fun k hk h => by rw [hp']; exact ⟨h, hk⟩)
      have hl12 : t.args.length ≤ 12 := hsl t (by rw [Tm.flat_eq]; exact List.mem_cons_self ..)
      have hcall : ∀ x : LT, x ∈ t.args → ∀ W, Turned (fun _ => False) w W → Calls Try.prog 174 #[x.val, .map (some mb)] W fun e w' => ∃ u : LT, e = .returned u.val ∧ u.bare = Tm.subF (baresM g) x.bare ∧ u.In (fun k => p' k ∨ W.heap.size ≤ k) w' ∧ Turned (fun _ => False) W w' := fun x hx W hW =>
        ih p' x W (by have := arg_depth hx; omega) ((LT.ins_iff _).1 (ht'.turned0 hW).args x hx) (fun y hy => hsl y (by rw [Tm.flat_eq]; exact List.mem_cons_of_mem _ (mem_flats_arg hx hy))) (hm.turned hW (fun f => f)) (fun i y hy => (hgi' i y hy).turned0 hW) (fun y hy => hall y (by rw [Tm.flat_eq]; exact List.mem_cons_of_mem _ (mem_flats_arg hx hy)))
      have HC := Lib.hid hcall
      have HIN := Lib.hid ht'
      have hsub : Tm.subF (baresM g) t.bare = .mk t.kind t.n t.name () (t.args.map fun x => Tm.subF (baresM g) x.bare) := by
        rw [mk_bare t, Tm.subF, if_neg hk, Tm.subFs_eq, Tm.bares_eq, List.map_map]; rfl
      have HSUB := Lib.hid hsub
      have hL := fun W h => (LT.In.lies (p := p') (w := W) (t := t) h)
      rw [LT.val_eq]
      obtain ⟨ad, had⟩ : ∃ z, z = t.at_.1 := ⟨_, rfl⟩
      obtain ⟨cd, hcd⟩ : ∃ z, z = t.at_.2 := ⟨_, rfl⟩
      rw [← had] at hL
      rw [← had, ← hcd]
      have HL := Lib.hid hL
      have H3 := Lib.hid (three w (.cells #[.int .i64 t.kind, .int .i64 t.n, .string t.name, .slice ad t.args.length cd] 27) (.cells #[.int .i64 0, .int .i64 0, .string ⟨#[]⟩, .slice none 0 0] 27) (.cells #[.int .i64 t.kind, .int .i64 t.n, .string t.name, .slice none 0 0] 27))
      clear ih hd hsl hcall ht ht' hgi hgi' hm hL had hcd hp' hsub hk hall
      go_enter Try.func174, Try.ntmps174
      go_wp2_with fail
      revert H3
      generalize (((w.alloc (.cells #[.int .i64 t.kind, .int .i64 t.n, .string t.name, .slice ad t.args.length cd] 27)).alloc (.cells #[.int .i64 0, .int .i64 0, .string ⟨#[]⟩, .slice none 0 0] 27)).alloc (.cells #[.int .i64 t.kind, .int .i64 t.n, .string t.name, .slice none 0 0] 27)) = w1
      intro H3
      obtain ⟨B0, hB0⟩ : ∃ z, z = w.heap.size := ⟨_, rfl⟩
      obtain ⟨B1, hB1⟩ : ∃ z, z = w.heap.size + 1 := ⟨_, rfl⟩
      obtain ⟨B2, hB2⟩ : ∃ z, z = w.heap.size + 2 := ⟨_, rfl⟩
      obtain ⟨N, hN⟩ : ∃ z, z = w.heap.size + 3 := ⟨_, rfl⟩
      rw [← hB1, ← hB2, ← hN, ← hB0] at H3
      have HE := Lib.hid (And.intro hB0 (And.intro hB1 (And.intro hB2 hN)))
      have HPL : Hid (∀ k, p' k → k < B2) := by intro k hq; have := (HPL0.out k hq).2; omega
      try rw [← hB2]
      try rw [← hB1]
      try rw [← hB0]
      clear hB0 hB1 hB2 hN
      have hinit : Hid (RepI p' (Tm.subF (baresM g)) N B2 t w1 0 [] none 0 w1) := ⟨rfl, H3.out.2.2.2.1, Row.nil _ _ _, trivial, fun b h => by simp [Value.ownBlock] at h, Turned.refl _ _⟩
      go_loopg [20] t.args.length (fun q i wr => ∃ j : Nat, Hid (j + q = t.args.length) ∧ j ≤ t.args.length ∧ i = .int .i64 j ∧ ∃ us a c, Hid (RepI p' (Tm.subF (baresM g)) N B2 t w1 j us a c wr))
      case atStart => exact ⟨0, Nat.zero_add _, Nat.zero_le _, rfl, [], none, 0, hinit⟩
      case round =>
        obtain ⟨j, HG, hj, rfl, us, a, c, HOR⟩ := hrel
        have HTw : Hid (Turned (fun _ => False) w wr) := H3.out.1.step HOR.out.turned (fun i hi e => by have := HE.out; omega)
        have hlen' : us.length = j := by have := congrArg List.length HOR.out.bares; rw [List.length_map, List.length_map, List.length_take] at this; omega
        have HUL := Lib.hid hlen'
        clear hlen'
        by_cases hjl : j < t.args.length
        · have hx : t.args[j]? = some t.args[j] := List.getElem?_eq_getElem hjl
          obtain ⟨x, hxe⟩ : ∃ x : LT, x = t.args[j] := ⟨_, rfl⟩
          rw [← hxe] at hx
          clear hxe
          have tin := HIN.out.turned0 HTw.out
          obtain ⟨b, o, rfl, _, c0, c1, c2, c3⟩ := (HL.out _ tin).cell hx
          have hcx := fun W (h : Turned (fun _ => False) wr W) => HC.out x (List.mem_of_getElem? hx) W (HTw.out.trans h)
          rw [LT.val_eq x] at hcx
          have HCX := Lib.hid hcx
          have HX := Lib.hid hx
          have hbn : B2 < N ∧ N ≤ wr.heap.size ∧ w1.heap.size ≤ N := ⟨by have := HE.out; omega, by have := HOR.out.turned.size; have := H3.out.2.1; omega, by have := H3.out.2.1; omega⟩
          clear hx hcx tin
          go_wp2_with fail
          have TX : Turned (fun _ => False) wr (wr.alloc (.cells #[.int .i64 x.kind, .int .i64 x.n, .string x.name, .slice x.at_.1 x.args.length x.at_.2] 27)) := (Turned.refl _ wr).alloc _
          have hbx := boxAt (Turned.refl (fun _ => False) (wr.alloc (.cells #[.int .i64 x.kind, .int .i64 x.n, .string x.name, .slice x.at_.1 x.args.length x.at_.2] 27)))
          have HOI : Hid (RepI p' (Tm.subF (baresM g)) N B2 t w1 j us a c (wr.alloc (.cells #[.int .i64 x.kind, .int .i64 x.n, .string x.name, .slice x.at_.1 x.args.length x.at_.2] 27))) := HOR.out.turned0 TX
          have HBN : Hid (B2 < N ∧ N ≤ (wr.alloc (.cells #[.int .i64 x.kind, .int .i64 x.n, .string x.name, .slice x.at_.1 x.args.length x.at_.2] 27)).heap.size ∧ w1.heap.size ≤ N) := ⟨hbn.1, Nat.le_trans hbn.2.1 TX.size, hbn.2.2⟩
          have HTB := And.intro (Lib.hid TX) (And.intro hbx (And.intro HOI HBN))
          clear TX hbx HOI HBN hbn c0 c1 c2 c3
          revert HTB
          generalize wr.alloc (.cells #[.int .i64 x.kind, .int .i64 x.n, .string x.name, .slice x.at_.1 x.args.length x.at_.2] 27) = wx
          generalize wr.heap.size = B9
          intro HTB
          obtain ⟨HWX, ⟨x0, x1, x2, x3, _⟩, HOI, HBN⟩ := HTB
          refine wp_region_hsW [24, 25, 26, 27, 28, 29, 30, 31] [4, 5, 6, 8] [2, 2, 0, 0, 1, 2, 3, 3, 4] [28, 29, 30, 100008] (fun d v => (match d with | 24 => v = .pointer (some ⟨B2, 3, none⟩) | 25 => v = .slice a j c | 26 => v = .agg #[.int .i64 x.kind, .int .i64 x.n, .string x.name, .slice x.at_.1 x.args.length x.at_.2] | 27 => v = .map (some mb) | 31 => v = .pointer (some ⟨B2, 3, none⟩) | _ => True : Prop)) (RepS p' (Tm.subF (baresM g)) N B2 t x w1 j us a c wx) (by kernel_rfl) rfl (by kernel_rfl) (by kernel_rfl) (by kernel_rfl) (by kernel_rfl) (fun _ h => h) (fun hs w w' h ht => RepS.turned0 hs w w' h ht) ?hs ?hQ
          case hs =>
            refine ⟨?s0, ?s1, ?s2, ?s3, ?s4, ?s5, ?s6, ?s7, ?s8, trivial⟩
            case s0 =>
              refine fun hs hle => stepG_free [] [5] (by kernel_rfl) rfl ?_
              · intro ac W hT hI hO
                have hle : hs.length ≤ 2 := hle
                have h5 : ac.tmps.getD 5 undef = .pointer (some ⟨B2, 0, none⟩) := hO 5 (by simp)
                show Brings Try.prog (fun v w' => Turned (fun _ => False) W w' ∧ v = .pointer (some ⟨B2, 3, none⟩)) _
                simp only [execOp, Act.eval, h5]
                go_simp
                try exact ⟨Turned.refl _ _, rfl⟩
            case s1 =>
              refine fun hs hle => stepG_free [24] [] (by kernel_rfl) rfl ?_
              · intro ac W hT hI hO
                have hle : hs.length ≤ 2 := hle
                have h24 : ac.tmps.getD 24 undef = .pointer (some ⟨B2, 3, none⟩) := hI 24 (by simp)
                show Brings Try.prog (fun v w' => Turned (fun _ => False) W w' ∧ v = .slice a j c) _
                obtain ⟨_, _, _, d3⟩ := RepS.blk HOI.out hs W hle hT
                simp only [execOp, Act.eval, h24]
                go_simp
                exact ⟨Turned.refl _ _, rfl⟩
            case s2 =>
              refine fun hs hle => stepG_free [] [7] (by kernel_rfl) rfl ?_
              · intro ac W hT hI hO
                have hle : hs.length ≤ 0 := hle
                have h7 : ac.tmps.getD 7 undef = .pointer (some ⟨B9, 0, none⟩) := hO 7 (by simp)
                show Brings Try.prog (fun v w' => Turned (fun _ => False) W w' ∧ v = .agg #[.int .i64 x.kind, .int .i64 x.n, .string x.name, .slice x.at_.1 x.args.length x.at_.2]) _
                have hT0 : Turned (fun _ => False) wx W := rep_nil (by omega) hT; have x0 := hT0.cell0 x0; have x1 := hT0.cell0 x1; have x2 := hT0.cell0 x2; have x3 := hT0.cell0 x3
                simp only [execOp, Act.eval, h7]
                go_simp
                exact ⟨Turned.refl _ _, rfl⟩
            case s3 =>
              refine fun hs hle => stepG_free [] [1] (by kernel_rfl) rfl ?_
              · intro ac W hT hI hO
                have hle : hs.length ≤ 0 := hle
                have h1 : ac.tmps.getD 1 undef = .map (some mb) := hO 1 (by simp)
                show Brings Try.prog (fun v w' => Turned (fun _ => False) W w' ∧ v = .map (some mb)) _
                simp only [execOp, Act.eval, h1]
                go_simp
                try exact ⟨Turned.refl _ _, rfl⟩
            case s4 =>
              refine fun hs hlen => stepG_free [26, 27] [] (by kernel_rfl) rfl ?_
              · intro ac W hT hI hO
                have h26 : ac.tmps.getD 26 undef = .agg #[.int .i64 x.kind, .int .i64 x.n, .string x.name, .slice x.at_.1 x.args.length x.at_.2] := hI 26 (by simp)
                have h27 : ac.tmps.getD 27 undef = .map (some mb) := hI 27 (by simp)
                show Brings Try.prog (fun v w' => RepS p' (Tm.subF (baresM g)) N B2 t x w1 j us a c wx (hs ++ [v]) w') _
                obtain rfl : hs = [] := List.eq_nil_of_length_eq_zero hlen
                replace hT : Turned (fun _ => False) wx W := hT
                simp only [execOp, Act.eval, h26, h27]
                go_simp
                show Calls Try.prog 174 _ W _
                (with_reducible refine (HCX.out W (HWX.out.trans hT)).mono ?_)
                rintro e w' ⟨u, rfl, hb, hu, T'⟩
                exact ⟨_, rfl, hT.trans T', u, rfl, hb, hu.mono (fun k hk h => h.elim .inl (fun h => .inr (Nat.le_trans hT.size h)))⟩
            case s5 =>
              refine fun hs hlen => stepG_free [28] [] (by kernel_rfl) rfl ?_
              · intro ac W hT hI hO
                have h28 : hs[0]? = some (ac.tmps.getD 28 undef) := hI 28 (by simp)
                show Brings Try.prog (fun v w' => RepS p' (Tm.subF (baresM g)) N B2 t x w1 j us a c wx (hs ++ [v]) w') _
                obtain ⟨uv, rfl⟩ := List.length_eq_one_iff.1 hlen
                obtain ⟨hT1, u, rfl, hb, hu⟩ := hT
                replace h28 : ac.tmps.getD 28 undef = u.val := by simpa using h28.symm
                rw [LT.val_eq] at h28
                have h28' : ac.tmps[28]?.getD undef = .agg #[.int .i64 u.kind, .int .i64 u.n, .string u.name, .slice u.at_.1 u.args.length u.at_.2] := by rw [← Array.getD_eq_getD_getElem?]; exact h28
                simp only [execOp, Act.eval, h28]
                go_simp
                have hnew := heap_alloc_new W (.cells #[.int .i64 u.kind, .int .i64 u.n, .string u.name, .slice u.at_.1 u.args.length u.at_.2] 27)
                refine ⟨hT1.alloc _, u, W.heap.size, rfl, hb, hu.turned0 ((Turned.refl _ W).alloc _), ?_⟩
                rw [LT.cells_eq]
                exact hnew
            case s6 =>
              refine fun hs hlen => stepG_free [25, 29] [] (by kernel_rfl) rfl ?_
              · intro ac W hT hI hO
                have h25 : ac.tmps.getD 25 undef = .slice a j c := hI 25 (by simp)
                have h29 : hs[1]? = some (ac.tmps.getD 29 undef) := hI 29 (by simp)
                show Brings Try.prog (fun v w' => RepS p' (Tm.subF (baresM g)) N B2 t x w1 j us a c wx (hs ++ [v]) w') _
                obtain ⟨uv, sv, rfl⟩ := list2' hlen
                obtain ⟨hT1, u, g2, rfl, hb, hu, hg⟩ := hT
                replace h29 : ac.tmps.getD 29 undef = .slice (some ⟨g2, 0, none⟩) 1 1 := by simpa using h29.symm
                refine brings_append (.tmp 25) (.tmp 29) 22 rfl 27 i0 zeroT 4 56 Try.underlying22 hi0 hz0 hz1 hz2 rfl (by decide) _ _ _ h25 (HOI.out.row.turned0 hT1) ⟨g2, 0, none⟩ 1 1 u.cells h29 (LT.cells_length u) (news_block hg) (LT.cells_one u) (by omega) (by unfold maxLen; omega) (by omega) ?_
                intro g3 cap2 w2 hrow2 T2 hl2
                have hgw : some g3 = (Value.slice a j c).ownBlock ∨ wx.heap.size ≤ g3 := by
                  rcases hl2 with e | e
                  · exact .inl e
                  · have := hT1.size; exact .inr (by omega)
                refine ⟨u, g3, cap2, rfl, hb, hrow2, ?_, (hT1.mono (fun _ _ f => f.elim)).trans T2, hgw⟩
                have hpl := HPL.out
                have hbn := HBN.out
                refine hu.turned T2 (fun k hk h e => ?_) (fun k hk h => ⟨h, fun e => ?_⟩)
                · have h1 := HOI.out.row.lt k e
                  have h2 := HOI.out.own k e
                  rcases h with h | h
                  · have := hpl k h; omega
                  · omega
                · subst e
                  rcases hl2 with e | e
                  · have h1 := HOI.out.row.lt k e.symm
                    have h2 := HOI.out.own k e.symm
                    rcases h with h | h
                    · have := hpl k h; omega
                    · omega
                  · omega
            case s7 =>
              refine fun hs hle => stepG_free [] [5] (by kernel_rfl) rfl ?_
              · intro ac W hT hI hO
                have hle : hs.length ≤ 3 := hle
                have h5 : ac.tmps.getD 5 undef = .pointer (some ⟨B2, 0, none⟩) := hO 5 (by simp)
                show Brings Try.prog (fun v w' => Turned (fun _ => False) W w' ∧ v = .pointer (some ⟨B2, 3, none⟩)) _
                simp only [execOp, Act.eval, h5]
                go_simp
                try exact ⟨Turned.refl _ _, rfl⟩
            case s8 =>
              refine fun hs hlen => stepG_free [31, 30] [] (by kernel_rfl) rfl ?_
              · intro ac W hT hI hO
                have h31 : ac.tmps.getD 31 undef = .pointer (some ⟨B2, 3, none⟩) := hI 31 (by simp)
                have h30 : hs[2]? = some (ac.tmps.getD 30 undef) := hI 30 (by simp)
                show Brings Try.prog (fun v w' => RepS p' (Tm.subF (baresM g)) N B2 t x w1 j us a c wx (hs ++ [v]) w') _
                obtain ⟨uv, sv, av, rfl⟩ := list3' hlen
                obtain ⟨u, g2, cap, rfl, hb, hrow, hu, hT2, hg⟩ := hT
                replace h30 : ac.tmps.getD 30 undef = .slice (some ⟨g2, 0, none⟩) (j + 1) cap := by simpa using h30.symm
                have hbl := (hT2.block B2 (Array.getElem?_eq_some_iff.1 HOI.out.blk).1 (fun e => by have := HOI.out.own B2 e; have := HBN.out.1; omega)).trans HOI.out.blk
                obtain ⟨_, _, _, d3, _, _, _, f3⟩ := cells4 hbl
                simp only [execOp, Act.eval, h31, h30]
                go_simp
                exact ⟨_, _, _, rep_close HPL.out HBN.out.1 HBN.out.2.1 HOI.out HX.out hb hrow hu hT2 hg HBN.out.2.2⟩
          case hQ =>
            intro hs vs w2 hlen hR hV
            obtain ⟨e1, e2, e3, e4, rfl⟩ : ∃ a b c d, hs = [a, b, c, d] := list4' hlen
            obtain ⟨us', a', c', hI⟩ := hR
            have HI' := Lib.hid hI
            simp only [List.foldl_cons, List.foldl_nil, List.setIfInBounds_toArray, List.set_cons_zero, List.set_cons_succ]
            clear hV hlen hI
            go_wp2_with fail
            go_roundg (gk - 1)
            case measure => have := HG.out; omega
            case rel => exact ⟨j + 1, show _ = _ by have := HG.out; omega, by omega, by go_num, us', a', c', HI'⟩
        · obtain rfl : j = t.args.length := by omega
          have hb1 := (HOR.out.turned.block B1 (Array.getElem?_eq_some_iff.1 H3.out.2.2.2.2).1 (fun e => by have := HE.out; omega)).trans H3.out.2.2.2.2
          obtain ⟨d0, d1, d2, d3, f0, f1, f2, f3⟩ := cells4 hb1
          obtain ⟨g0, g1, g2, g3, _⟩ := cells4 HOR.out.blk
          have HB1 := Lib.hid hb1
          clear hb1
          go_wp2_with fail
          have hset := set4 (a' := .int .i64 t.kind) (b' := .int .i64 t.n) (c' := .string t.name) (d' := .slice a t.args.length c) HB1.out
          have hge : w.heap.size ≤ B1 := by have := HE.out; omega
          have T4 := turned4 (a := .int .i64 t.kind) (b := .int .i64 t.n) (c := .string t.name) (d := .slice a t.args.length c) HTw.out hge
          refine bodyPost_ret (v := .agg #[.int .i64 t.kind, .int .i64 t.n, .string t.name, .slice a t.args.length c]) (results_cell_row Try.results174 _ _ B1 27 _ (0, 0) _ rfl hset Try.underlying27 rfl (by kernel_rfl)) rfl ?_
          have hne : ∀ q, (Value.slice a t.args.length c).ownBlock ≠ some (Addr.block ⟨B1, q, none⟩) := fun q e => by have h1 : N ≤ B1 := HOR.out.own _ e; have := HE.out; omega
          have hrow := ((((HOR.out.row.setCell (hne 0) (.int .i64 t.kind)).setCell (hne 1) (.int .i64 t.n)).setCell (hne 2) (.string t.name)).setCell (hne 3) (.slice a t.args.length c))
          have Tq : Turned (fun k => k = B1) wr _ := ((((Turned.refl (fun k => k = B1) wr).setCell (p := ⟨B1, 0, none⟩) (.inr rfl) (.int .i64 t.kind)).setCell (p := ⟨B1, 1, none⟩) (.inr rfl) (.int .i64 t.n)).setCell (p := ⟨B1, 2, none⟩) (.inr rfl) (.string t.name)).setCell (p := ⟨B1, 3, none⟩) (.inr rfl) (.slice a t.args.length c)
          have hpl := HPL0.out
          have hins := HOR.out.ins.turned (q := fun k => p k ∨ w.heap.size ≤ k) Tq (fun k _ hk e => by
            have := HE.out
            rcases hk.1 with h | h
            · have := (hpl k h).2; omega
            · omega) (fun k _ hk => by
            have := HE.out
            rcases hk.1 with h | h
            · exact .inl (hpl k h).1
            · exact .inr (by omega))
          obtain ⟨e1, e2⟩ := LT.Sl.of_row (p := fun k => p k ∨ w.heap.size ≤ k) hrow (fun k hk => .inr (by have := HOR.out.own k hk; have := HE.out; omega)) hins
          refine ⟨.mk t.kind t.n t.name (a, c) us, ?_, ?_, e2.in_ HIN.out.kind HIN.out.n HIN.out.name, T4⟩
          · show _ = Ending.returned (LT.val (.mk t.kind t.n t.name (a, c) us))
            rw [LT.val_eq]
            show _ = Ending.returned (.agg #[.int .i64 t.kind, .int .i64 t.n, .string t.name, .slice a us.length c])
            rw [HUL.out]
          · have hbr := HOR.out.bares
            rw [List.take_length] at hbr
            rw [HSUB.out, Tm.bare, Tm.bares_eq, hbr]
end Go.Proofs.Ytoihjobdfjajfaa
namespace Go.Proofs.Ytoihjobdfjajfaa
set_option linter.unusedVariables false
set_option linter.unusedSimpArgs false
open Go.RowKit Go.Maps
theorem wholeE_ok {m : Nat} {l : Tm.Trail} {t : Tm Unit} (h : wholeE m l t = 0) : Tm.ownB m t = true ∧ Tm.wholeB l t = true := by
  unfold wholeE at h
  split at h
  · rename_i h1
    split at h
    · rename_i h2; exact ⟨h1, h2⟩
    · cases h
  · cases h
theorem good_slimB {t : LT} (h : goodB t.bare = true) : slim t := by
  intro x hx
  have h1 := Tm.good_ones' h x.bare (by rw [Tm.flat_bare]; exact List.mem_map_of_mem hx)
  rw [goodOneB_bare] at h1
  by_cases ha : x.args = []
  · rw [ha]; exact Nat.zero_le _
  · have := (Tm.one_args h1 ha).2.2; omega
theorem wholeVal {p O : Nat → Prop} {bb m : Nat} {l : TL} {w : World} {t : LT} {E : Int} (h : BO p bb O m l w) (ht : t.In p w) (hs : slim t) (hE : wholeE m (bt l) t.bare = E) :
    Calls Try.prog 89 #[.pointer (some ⟨bb, 0, none⟩), .agg #[.int .i64 t.kind, .int .i64 t.n, .string t.name, .slice t.at_.1 t.args.length t.at_.2]] w fun e w' => ∃ u : LT, e = .returned (.tuple #[.agg #[.int .i64 u.kind, .int .i64 u.n, .string u.name, .slice u.at_.1 u.args.length u.at_.2], .int .i64 E]) ∧ u.bare = wholeT m (bt l) t.bare ∧ u.In (fun k => p k ∨ w.heap.size ≤ k) w' ∧ Turned (fun _ => False) w w' := by
  have := wholeO89 h ht hs
  rw [LT.val_eq, hE] at this
  exact this.mono fun e w' ⟨u, h1, h2⟩ => ⟨u, by rw [h1, LT.val_eq], h2⟩
def BLoop (N bb m : Nat) (l : TL) (w1 wr : World) : Prop :=
  ∃ O, BO (fun k => k < N) bb O m l wr ∧ (∀ k, O k → N ≤ k) ∧ Turned (fun _ => False) w1 wr
theorem BLoop.step {N bb m m' : Nat} {l l' : TL} {w1 wr w' : World} {O : Nat → Prop} (hN : N = w1.heap.size) (h : BO (fun k => k < N) bb O m l wr) (hO : ∀ k, O k → N ≤ k) (T : Turned (fun _ => False) w1 wr) (ha : After (fun k => k < N) bb O m' l' wr w') : BLoop N bb m' l' w1 w' := by
  obtain ⟨O', a1, a2, a3⟩ := ha
  refine ⟨O', a1, fun k hk => ?_, T.step a3 (fun i hi e => by have := hO i e; omega)⟩
  rcases Nat.lt_or_ge k wr.heap.size with h1 | h1
  · exact hO k (a2 k hk h1)
  · have := T.size; omega
end Go.Proofs.Ytoihjobdfjajfaa
