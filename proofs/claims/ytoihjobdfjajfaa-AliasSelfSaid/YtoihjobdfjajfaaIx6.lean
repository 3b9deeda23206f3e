/- Merged texts: BU2, BU3, BU4, BR3, BV1, IX2, Own116, Pick, Aw16. -/
import Derived.Test.YtoihjobdfjajfaaIx5
import Derived.Deep.RegionHeld3
import Derived.Deep.DrawnRows
/- unify's maker: one. -/
namespace Go.Proofs.Ytoihjobdfjajfaa
open Go.RowKit Go.Maps
set_option linter.unusedVariables false
set_option linter.unusedSimpArgs false
/-- Both walked, both laid: how far the first region is. -/
def WkS (p : Nat → Prop) (X0 Y0 : Tm Unit) (N : Nat) (w2 : World) : List Value → World → Prop
  | [], W => Turned (fun _ => False) w2 W
  | [a], W => Turned (fun _ => False) w2 W ∧ ∃ X : LT, a = .agg #[.int .i64 X.kind, .int .i64 X.n, .string X.name, .slice X.at_.1 X.args.length X.at_.2] ∧ X.In p W ∧ X.bare = X0
  | [a, b], W => Turned (fun _ => False) w2 W ∧ (∃ X : LT, a = .agg #[.int .i64 X.kind, .int .i64 X.n, .string X.name, .slice X.at_.1 X.args.length X.at_.2] ∧ X.In p W ∧ X.bare = X0) ∧ ∃ Y : LT, b = .agg #[.int .i64 Y.kind, .int .i64 Y.n, .string Y.name, .slice Y.at_.1 Y.args.length Y.at_.2] ∧ Y.In p W ∧ Y.bare = Y0
  | [_, b, _], W => Turned (fun k => k = N) w2 W ∧ (∃ X : LT, W.heap[N]? = some (.cells #[.int .i64 X.kind, .int .i64 X.n, .string X.name, .slice X.at_.1 X.args.length X.at_.2] 27 (0, 0)) ∧ X.In p W ∧ X.bare = X0) ∧ ∃ Y : LT, b = .agg #[.int .i64 Y.kind, .int .i64 Y.n, .string Y.name, .slice Y.at_.1 Y.args.length Y.at_.2] ∧ Y.In p W ∧ Y.bare = Y0
  | [_, _, _, _], W => Turned (fun k => k = N ∨ k = N + 1) w2 W ∧ (∃ X : LT, W.heap[N]? = some (.cells #[.int .i64 X.kind, .int .i64 X.n, .string X.name, .slice X.at_.1 X.args.length X.at_.2] 27 (0, 0)) ∧ X.In p W ∧ X.bare = X0) ∧ ∃ Y : LT, W.heap[N + 1]? = some (.cells #[.int .i64 Y.kind, .int .i64 Y.n, .string Y.name, .slice Y.at_.1 Y.args.length Y.at_.2] 27 (0, 0)) ∧ Y.In p W ∧ Y.bare = Y0
  | _, _ => False
section
variable {p : Nat → Prop} {X0 Y0 : Tm Unit} {N : Nat} {w2 W W' : World}
theorem WkS.turned0 : ∀ (hs : List Value) (w w' : World), WkS p X0 Y0 N w2 hs w → Turned (fun _ => False) w w' → WkS p X0 Y0 N w2 hs w'
  | [], _, _, h, T => Turned.trans h T
  | [_], _, _, h, T => by obtain ⟨h1, X, x1, x2, x3⟩ := h; exact ⟨h1.trans T, X, x1, x2.turned0 T, x3⟩
  | [_, _], _, _, h, T => by obtain ⟨h1, ⟨X, x1, x2, x3⟩, Y, y1, y2, y3⟩ := h; exact ⟨h1.trans T, ⟨X, x1, x2.turned0 T, x3⟩, Y, y1, y2.turned0 T, y3⟩
  | [_, _, _], _, _, h, T => by obtain ⟨h1, ⟨X, x1, x2, x3⟩, Y, y1, y2, y3⟩ := h; exact ⟨h1.trans (T.mono (fun _ _ f => f.elim)), ⟨X, (T.block _ (Array.getElem?_eq_some_iff.1 x1).1 (fun f => f)).trans x1, x2.turned0 T, x3⟩, Y, y1, y2.turned0 T, y3⟩
  | [_, _, _, _], _, _, h, T => by obtain ⟨h1, ⟨X, x1, x2, x3⟩, Y, y1, y2, y3⟩ := h; exact ⟨h1.trans (T.mono (fun _ _ f => f.elim)), ⟨X, (T.block _ (Array.getElem?_eq_some_iff.1 x1).1 (fun f => f)).trans x1, x2.turned0 T, x3⟩, Y, (T.block _ (Array.getElem?_eq_some_iff.1 y1).1 (fun f => f)).trans y1, y2.turned0 T, y3⟩
  | _ :: _ :: _ :: _ :: _ :: _, _, _, h, _ => h.elim
theorem WkS.turned : ∀ (hs : List Value) (W : World), WkS p X0 Y0 N w2 hs W → Turned (fun k => k = N ∨ k = N + 1) w2 W
  | [], _, h => Turned.mono h (fun _ _ f => f.elim)
  | [_], _, h => h.1.mono (fun _ _ f => f.elim)
  | [_, _], _, h => h.1.mono (fun _ _ f => f.elim)
  | [_, _, _], _, h => h.1.mono (fun _ _ e => .inl e)
  | [_, _, _, _], _, h => h.1
  | _ :: _ :: _ :: _ :: _ :: _, _, h => h.elim
theorem WkS.early : ∀ (hs : List Value) (W : World), hs.length ≤ 2 → WkS p X0 Y0 N w2 hs W → Turned (fun _ => False) w2 W
  | [], _, _, h => h
  | [_], _, _, h => h.1
  | [_, _], _, _, h => h.1
theorem WkS.store1 {a b q : Value} {X : LT} (h : WkS p X0 Y0 N w2 [a, b] W) (hX : a = .agg #[.int .i64 X.kind, .int .i64 X.n, .string X.name, .slice X.at_.1 X.args.length X.at_.2]) (hXi : X.In p W) (hXb : X.bare = X0) (hN : ∃ a0 b0 c0 d0, W.heap[N]? = some (.cells #[a0, b0, c0, d0] 27 (0, 0))) (hp : ¬ p N) :
    WkS p X0 Y0 N w2 [a, b, q] ((((W.setCell ⟨N, 0, none⟩ (.int .i64 X.kind)).setCell ⟨N, 1, none⟩ (.int .i64 X.n)).setCell ⟨N, 2, none⟩ (.string X.name)).setCell ⟨N, 3, none⟩ (.slice X.at_.1 X.args.length X.at_.2)) := by
  obtain ⟨h1, _, Y, y1, y2, y3⟩ := h
  obtain ⟨a0, b0, c0, d0, hN⟩ := hN
  have T := turned_store4 W N (.int .i64 X.kind) (.int .i64 X.n) (.string X.name) (.slice X.at_.1 X.args.length X.at_.2)
  have hs := set4 (a' := .int .i64 X.kind) (b' := .int .i64 X.n) (c' := .string X.name) (d' := .slice X.at_.1 X.args.length X.at_.2) hN
  exact ⟨(h1.mono (fun _ _ f => f.elim)).trans T, ⟨X, hs, LT.In.turned T (fun k _ hk e => hp (e ▸ hk)) (fun _ _ hk => hk) _ hXi, hXb⟩, Y, y1, LT.In.turned T (fun k _ hk e => hp (e ▸ hk)) (fun _ _ hk => hk) _ y2, y3⟩
theorem WkS.store2 {a b c q : Value} {Y : LT} (h : WkS p X0 Y0 N w2 [a, b, c] W) (hYi : Y.In p W) (hYb : Y.bare = Y0) (hN : ∃ a0 b0 c0 d0, W.heap[N + 1]? = some (.cells #[a0, b0, c0, d0] 27 (0, 0))) (hp : ¬ p (N + 1)) :
    WkS p X0 Y0 N w2 [a, b, c, q] ((((W.setCell ⟨N + 1, 0, none⟩ (.int .i64 Y.kind)).setCell ⟨N + 1, 1, none⟩ (.int .i64 Y.n)).setCell ⟨N + 1, 2, none⟩ (.string Y.name)).setCell ⟨N + 1, 3, none⟩ (.slice Y.at_.1 Y.args.length Y.at_.2)) := by
  obtain ⟨h1, ⟨X, x1, x2, x3⟩, _⟩ := h
  obtain ⟨a0, b0, c0, d0, hN⟩ := hN
  have T := turned_store4 W (N + 1) (.int .i64 Y.kind) (.int .i64 Y.n) (.string Y.name) (.slice Y.at_.1 Y.args.length Y.at_.2)
  have hs := set4 (a' := .int .i64 Y.kind) (b' := .int .i64 Y.n) (c' := .string Y.name) (d' := .slice Y.at_.1 Y.args.length Y.at_.2) hN
  exact ⟨(h1.mono (fun _ _ e => .inl e)).trans (T.mono (fun _ _ e => .inr e)), ⟨X, (T.block N (Array.getElem?_eq_some_iff.1 x1).1 (by omega)).trans x1, LT.In.turned T (fun k _ hk e => hp (e ▸ hk)) (fun _ _ hk => hk) _ x2, x3⟩, Y, hs, LT.In.turned T (fun k _ hk e => hp (e ▸ hk)) (fun _ _ hk => hk) _ hYi, hYb⟩
end
theorem info187 : (Try.prog.info? 187).map (fun i => (i.zero, i.size, i.bytes)) = some (some (.agg #[.int .i64 0, .int .i64 0, .string ByteArray.empty, .slice none 0 0, .int .i64 0, .int .i64 0, .string ByteArray.empty, .slice none 0 0]), 8, 112) := by kernel_rfl
theorem brings_build187 {o : Oper} {a : Act} {w : World} {F : Value → World → Prop} (x y : Tmp) (ho : o.op = Op.build 187 #[(0, .tmp x), (1, .tmp y)]) {a0 a1 a2 a3 b0 b1 b2 b3 : Value} (hx : a.tmps.getD x undef = .agg #[a0, a1, a2, a3]) (hy : a.tmps.getD y undef = .agg #[b0, b1, b2, b3])
    (h : F (.agg #[a0, a1, a2, a3, b0, b1, b2, b3]) w) : Brings Try.prog F ((execOp a.eval o).run Try.prog w) := by
  have e : ∀ q, a.eval (.tmp q) = a.tmps.getD q undef := fun _ => rfl
  unfold execOp
  simp only [ho, List.map_toArray, List.map_cons, List.map_nil, e, hx, hy]
  go_simp
  exact h
theorem brings_slice188 {o : Oper} {a : Act} {w : World} {F : Value → World → Prop} (x : Tmp) (ho : o.op = Op.buildSlice 188 1 #[(0, .tmp x)]) {a0 a1 a2 a3 b0 b1 b2 b3 : Value} (hx : a.tmps.getD x undef = .agg #[a0, a1, a2, a3, b0, b1, b2, b3])
    (h : F (.slice (some ⟨w.heap.size, 0, none⟩) 1 1) (w.alloc (.cells #[a0, a1, a2, a3, b0, b1, b2, b3] 187))) : Brings Try.prog F ((execOp a.eval o).run Try.prog w) := by
  have hx' : a.tmps[x]?.getD undef = .agg #[a0, a1, a2, a3, b0, b1, b2, b3] := by rw [← Array.getD_eq_getD_getElem?]; exact hx
  simp only [execOp, ho, Act.eval]
  go_simp
  exact h
section
variable {l : Tm.Trail} {left : Nat} {X Y : LT}
theorem oneU_same (hx : X.kind = 0) (hy : Y.kind = 0) (hn : X.n = Y.n) : Tm.oneU l left X.bare Y.bare = .done (.ok l left) := by
  unfold Tm.oneU; rw [if_pos (by rw [Tm.bare_kind]; exact hx), if_pos (by rw [Tm.bare_kind]; exact hy), if_pos (by rw [Tm.bare_n, Tm.bare_n]; exact hn)]
theorem oneU_vars (hx : X.kind = 0) (hy : Y.kind = 0) (hn : ¬ X.n = Y.n) : Tm.oneU l left X.bare Y.bare = .done (.ok ((max X.n Y.n, Tm.V (min X.n Y.n)) :: l) left) := by
  unfold Tm.oneU; rw [if_pos (by rw [Tm.bare_kind]; exact hx), if_pos (by rw [Tm.bare_kind]; exact hy), if_neg (by rw [Tm.bare_n, Tm.bare_n]; exact hn), Tm.bare_n, Tm.bare_n]
theorem oneU_left (hx : X.kind = 0) (hy : ¬ Y.kind = 0) : Tm.oneU l left X.bare Y.bare = .done (Tm.tieU l left X.n Y.bare) := by
  unfold Tm.oneU; rw [if_pos (by rw [Tm.bare_kind]; exact hx), if_neg (by rw [Tm.bare_kind]; exact hy), Tm.bare_n]
theorem oneU_right (hx : ¬ X.kind = 0) (hy : Y.kind = 0) : Tm.oneU l left X.bare Y.bare = .done (Tm.tieU l left Y.n X.bare) := by
  unfold Tm.oneU; rw [if_neg (by rw [Tm.bare_kind]; exact hx), if_pos (by rw [Tm.bare_kind]; exact hy), Tm.bare_n]
theorem oneU_heads (hx : ¬ X.kind = 0) (hy : ¬ Y.kind = 0) : Tm.oneU l left X.bare Y.bare = if X.kind = Y.kind ∧ X.n = Y.n ∧ X.name = Y.name ∧ X.args.length = Y.args.length then .more (X.bare.args.zip Y.bare.args) else .done (.no left) := by
  unfold Tm.oneU
  rw [if_neg (by rw [Tm.bare_kind]; exact hx), if_neg (by rw [Tm.bare_kind]; exact hy)]
  have h := Tm.headsB_iff (x := X.bare) (y := Y.bare)
  rw [Tm.bare_kind, Tm.bare_kind, Tm.bare_n, Tm.bare_n, Tm.bare_name, Tm.bare_name, Tm.bare_arity, Tm.bare_arity] at h
  by_cases hh : Tm.headsB X.bare Y.bare = true
  · rw [if_pos hh, if_pos (h.1 hh)]
  · rw [if_neg hh, if_neg (fun c => hh (h.2 c))]
theorem setE_vars {m : Nat} {l : Tm.Trail} {n k : Int} (hl : Tm.okT m l) (hm : m ≤ 65536) (n0 : 0 ≤ n) (n1 : n < (m : Int)) (k0 : 0 ≤ k) (k1 : k < (m : Int)) (hn : n ∉ Tm.dom l) (hk : k ∉ Tm.dom l) (hne : ¬ n = k) : Tm.setE m l n (Tm.V k) = 0 := by
  unfold Tm.setE
  rw [if_pos ⟨n0, n1, Tm.ownB_V k0 k1 hm⟩, if_neg hn, if_neg]
  rw [Tm.img_V, Tm.sig_free hl hk, Tm.vars_mem, Tm.numsIn_V]
  exact hne
end
theorem UA.from {p O : Nat → Prop} {bb K m : Nat} {v : Value} {st : List PT} {c : Int} {l' : Tm.Trail} {w w3 w' : World} (T : Turned (fun _ => False) w w3) (h : UA p bb K v st c O m l' w3 w') : UA p bb K v st c O m l' w w' := by
  obtain ⟨l2, O', h1, h2, h3, h4⟩ := h
  exact ⟨l2, O', h1, h2, fun k hk hl => h3 k hk (Nat.lt_of_lt_of_le hl T.size), (T.mono (fun _ _ f => f.elim)).trans h4⟩
theorem After.from0 {p O : Nat → Prop} {bb m : Nat} {l : TL} {w w3 w' : World} (h : After p bb O m l w3 w') (T : Turned (fun _ => False) w w3) : After p bb O m l w w' := by
  obtain ⟨O', h1, h2, h3⟩ := h
  exact ⟨O', h1, fun k hk hl => h2 k hk (Nat.lt_of_lt_of_le hl T.size), (T.mono (fun _ _ f => f.elim)).trans h3⟩
theorem setVar {p O : Nat → Prop} {bb m : Nat} {l : TL} {w : World} {n k : Int} (h : BO p bb O m l w) (hn : I64 n) (hk : I64 k) (hE : Tm.setE m (bt l) n (Tm.V k) = 0) :
    Calls Try.prog 88 #[.pointer (some ⟨bb, 0, none⟩), .int .i64 n, .agg #[.int .i64 0, .int .i64 k, .string ByteArray.empty, .slice none 0 0]] w fun e w' => e = .returned (.int .i64 0) ∧ ∃ l', bt l' = (n, Tm.V k) :: bt l ∧ After p bb O m l' w w' := by
  have := setO88 h (t := leaf 0 k ByteArray.empty) (var_in hk) (leaf_slim _ _ _) n hn
  have e : (leaf 0 k ByteArray.empty).bare = Tm.V k := rfl
  rw [e, hE, if_pos rfl] at this
  exact this
/-- A variable is set to a variable: how far. -/
def VarS (p : Nat → Prop) (bb : Nat) (O : Nat → Prop) (m : Nat) (l : TL) (n k : Int) (w3 : World) : List Value → World → Prop
  | [], W => Turned (fun _ => False) w3 W
  | [a], W => Turned (fun _ => False) w3 W ∧ a = .agg #[.int .i64 0, .int .i64 k, .string ByteArray.empty, .slice none 0 0]
  | [_, b], W => b = .int .i64 0 ∧ ∃ l', bt l' = (n, Tm.V k) :: bt l ∧ After p bb O m l' w3 W
  | _, _ => False
section
variable {p O : Nat → Prop} {bb m : Nat} {l : TL} {n k : Int} {w3 : World}
theorem VarS.turned0 : ∀ (hs : List Value) (w w' : World), VarS p bb O m l n k w3 hs w → Turned (fun _ => False) w w' → VarS p bb O m l n k w3 hs w'
  | [], _, _, h, T => Turned.trans h T
  | [_], _, _, h, T => ⟨h.1.trans T, h.2⟩
  | [_, _], _, _, ⟨h1, l', h2, h3⟩, T => ⟨h1, l', h2, h3.turned0 T⟩
  | _ :: _ :: _ :: _, _, _, h, _ => h.elim
theorem VarS.turned : ∀ (hs : List Value) (W : World), hs.length ≤ 1 → VarS p bb O m l n k w3 hs W → Turned (fun _ => False) w3 W
  | [], _, _, h => h
  | [_], _, _, h => h.1
theorem VarS.val : ∀ (hs : List Value) (W : World) {x : Value}, VarS p bb O m l n k w3 hs W → hs[1]? = some x → x = .int .i64 0
  | [], _, _, _, e => by simp at e
  | [_], _, _, _, e => by simp at e
  | [_, _], _, _, h, e => by simp at e; rw [← e]; exact h.1
  | _ :: _ :: _ :: _, _, _, h, _ => h.elim
end
/-- How far one pair is pushed. -/
def PsS (bb K : Nat) (v : Value) (n : Nat) (xs : List Value) (c : Int) (X Y : LT) (wr : World) : List Value → World → Prop
  | [], W => Turned (fun _ => False) wr W
  | [s], W => Turned (fun _ => False) wr W ∧ ∃ g0, s = .slice (some ⟨g0, 0, none⟩) 1 1 ∧ W.heap[g0]? = some (.cells #[.int .i64 X.kind, .int .i64 X.n, .string X.name, .slice X.at_.1 X.args.length X.at_.2, .int .i64 Y.kind, .int .i64 Y.n, .string Y.name, .slice Y.at_.1 Y.args.length Y.at_.2] 187 (0, 0))
  | [_, a], W => Row W 187 8 a (n + 1) (xs ++ PT.cells (X, Y)) ∧ (a.ownBlock = v.ownBlock ∨ ∀ g, a.ownBlock = some g → wr.heap.size ≤ g) ∧ Turned (fun k => v.ownBlock = some k) wr W
  | [_, a, _], W => Row W 187 8 a (n + 1) (xs ++ PT.cells (X, Y)) ∧ (a.ownBlock = v.ownBlock ∨ ∀ g, a.ownBlock = some g → wr.heap.size ≤ g) ∧ Turned (fun k => k = K ∨ v.ownBlock = some k) wr W ∧ W.heap[K]? = some (.cells #[.pointer (some ⟨bb, 0, none⟩), a, .int .i64 c] 190 (0, 0))
  | _, _ => False
section
variable {bb K n : Nat} {v : Value} {xs : List Value} {c : Int} {X Y : LT} {wr W W' : World}
theorem PsS.turned0 : ∀ (hs : List Value) (w w' : World), PsS bb K v n xs c X Y wr hs w → Turned (fun _ => False) w w' → PsS bb K v n xs c X Y wr hs w'
  | [], _, _, h, T => Turned.trans h T
  | [_], _, _, ⟨h1, g0, h2, h3⟩, T => ⟨h1.trans T, g0, h2, (T.block _ (Array.getElem?_eq_some_iff.1 h3).1 (fun f => f)).trans h3⟩
  | [_, _], _, _, ⟨h1, h2, h3⟩, T => ⟨h1.turned0 T, h2, h3.trans (T.mono (fun _ _ f => f.elim))⟩
  | [_, _, _], _, _, ⟨h1, h2, h3, h4⟩, T => ⟨h1.turned0 T, h2, h3.trans (T.mono (fun _ _ f => f.elim)), (T.block _ (Array.getElem?_eq_some_iff.1 h4).1 (fun f => f)).trans h4⟩
  | _ :: _ :: _ :: _ :: _, _, _, h, _ => h.elim
theorem PsS.turned : ∀ (hs : List Value) (W : World), hs.length ≤ 2 → PsS bb K v n xs c X Y wr hs W → Turned (fun k => v.ownBlock = some k) wr W
  | [], _, _, h => Turned.mono h (fun _ _ f => f.elim)
  | [_], _, _, h => h.1.mono (fun _ _ f => f.elim)
  | [_, _], _, _, h => h.2.2
end
theorem UK.push {p O : Nat → Prop} {bb K m : Nat} {v a : Value} {st : List PT} {c : Int} {l : TL} {wr W : World} {X Y : LT} (h : UK p bb K v st c O m l wr) (hX : X.In p wr ∧ Tm.ownB m X.bare = true) (hY : Y.In p wr ∧ Tm.ownB m Y.bare = true) (hr : Row W 187 8 a (st.length + 1) (st.flatMap PT.cells ++ PT.cells (X, Y))) (ho : a.ownBlock = v.ownBlock ∨ ∀ g, a.ownBlock = some g → wr.heap.size ≤ g) (T : Turned (fun k => k = K ∨ v.ownBlock = some k) wr W) (hk : W.heap[K]? = some (.cells #[.pointer (some ⟨bb, 0, none⟩), a, .int .i64 c] 190 (0, 0))) :
    UK p bb K a (st ++ [(X, Y)]) c O m l W := by
  have hS : ∀ k, k < wr.heap.size → (k = K ∨ v.ownBlock = some k) → ¬ O k ∧ ¬ p k := fun k _ e => by
    rcases e with e | e
    · rw [e]; exact h.kO
    · exact ⟨(h.vO k e).1, (h.vO k e).2.1⟩
  have hp : ∀ q : LT, q.In p wr → q.In p W := fun q hq => LT.In.turned T (fun k hl hk e => (hS k hl e).2 hk) (fun _ _ hk => hk) q hq
  refine ⟨h.bo.turned T hS, hk, by simpa using hr, fun q hq => ?_, h.kO, fun g hg => ?_⟩
  · rcases List.mem_append.1 hq with hq | hq
    · exact ⟨⟨hp _ (h.mem q hq).1.1, (h.mem q hq).1.2⟩, hp _ (h.mem q hq).2.1, (h.mem q hq).2.2⟩
    · rw [List.mem_singleton] at hq
      rw [hq]
      exact ⟨⟨hp _ hX.1, hX.2⟩, hp _ hY.1, hY.2⟩
  · rcases ho with e | e
    · exact h.vO g (e ▸ hg)
    · have h1 := e g hg
      exact ⟨fun c => by have := h.bo.lt g c; omega, fun c => by have := h.bo.plt g c; omega, fun c => by have := (Array.getElem?_eq_some_iff.1 h.k).1; omega⟩
/-- Where the loop that pushes stands. -/
def OneL (p : Nat → Prop) (bb K : Nat) (v : Value) (st : List PT) (c : Nat) (O : Nat → Prop) (m : Nat) (l : TL) (X Y : LT) (N : Nat) (w3 : World) (q : Nat) (i : Value) (wr : World) : Prop :=
  Hid (q ≤ X.args.length) ∧ i = .int .i64 ((q : Int) - 1) ∧ ∃ v', Hid (UK p bb K v' (st ++ ((X.args.zip Y.args).drop q).reverse) c O m l wr) ∧ Hid (v'.ownBlock = v.ownBlock ∨ ∀ g, v'.ownBlock = some g → w3.heap.size ≤ g) ∧ wr.heap[N]? = some (.cells #[.int .i64 X.kind, .int .i64 X.n, .string X.name, .slice X.at_.1 X.args.length X.at_.2] 27 (0, 0)) ∧ wr.heap[N + 1]? = some (.cells #[.int .i64 Y.kind, .int .i64 Y.n, .string Y.name, .slice Y.at_.1 Y.args.length Y.at_.2] 27 (0, 0)) ∧ Hid (X.In p wr ∧ Y.In p wr) ∧ Hid (Turned (ownU K v O) w3 wr)
/-- A pair's end, or what is to be done then. -/
def OQ (p : Nat → Prop) (bb K : Nat) (v : Value) (st : List PT) (c : Nat) (O : Nat → Prop) (m : Nat) (l : TL) (w : World) : Tm.UStep → Ending → World → Prop
  | .done r, e, w' => ∃ v', v' = v ∧ UQ p bb K v' st O m l w r e w'
  | .more ps, e, w' => e = .returned (.tuple #[.bool true, .int .i64 0]) ∧ ∃ (v' : Value) (qs : List PT), UK p bb K v' (st ++ qs.reverse) c O m l w' ∧ qs.map (fun q => (q.1.bare, q.2.bare)) = ps ∧ (v'.ownBlock = v.ownBlock ∨ ∀ g, v'.ownBlock = some g → w.heap.size ≤ g) ∧ Turned (ownU K v O) w w'
section
variable {p O : Nat → Prop} {bb K m : Nat} {v : Value} {st : List PT} {c : Nat} {l : TL} {w w' : World}
set_option maxRecDepth 100000 in
set_option maxHeartbeats 12800000 in
theorem one173 {x y : LT} (h : UK p bb K v st c O m l w) (hc : c ≤ 2000) (hsl : st.length ≤ 20000) (hx : x.In p w) (gx : Tm.ownB m x.bare = true) (hy : y.In p w) (gy : Tm.ownB m y.bare = true) :
    Calls Try.prog 173 #[.pointer (some ⟨K, 0, none⟩), x.val, y.val] w (OQ p bb K v st c O m l w (Tm.oneU (bt l) (2000 - c) (Tm.walkT (bt l) x.bare) (Tm.walkT (bt l) y.bare))) := by
  have h2 := twoBox w (.cells #[.int .i64 x.kind, .int .i64 x.n, .string x.name, .slice x.at_.1 x.args.length x.at_.2] 27) (.cells #[.int .i64 y.kind, .int .i64 y.n, .string y.name, .slice y.at_.1 y.args.length y.at_.2] 27)
  obtain ⟨w2, hw2⟩ : ∃ z, z = (w.alloc (.cells #[.int .i64 x.kind, .int .i64 x.n, .string x.name, .slice x.at_.1 x.args.length x.at_.2] 27)).alloc (.cells #[.int .i64 y.kind, .int .i64 y.n, .string y.name, .slice y.at_.1 y.args.length y.at_.2] 27) := ⟨_, rfl⟩
  rw [← hw2] at h2
  have hbx : ∀ W, Turned (fun _ => False) w2 W → W.heap[w.heap.size]? = some (.cells #[.int .i64 x.kind, .int .i64 x.n, .string x.name, .slice x.at_.1 x.args.length x.at_.2] 27 (0, 0)) ∧ W.heap[w.heap.size + 1]? = some (.cells #[.int .i64 y.kind, .int .i64 y.n, .string y.name, .slice y.at_.1 y.args.length y.at_.2] 27 (0, 0)) := fun W hW => ⟨(hW.block _ (by have := h2.2.1; omega) (fun f => f)).trans h2.2.2.1, (hW.block _ (by have := h2.2.1; omega) (fun f => f)).trans h2.2.2.2⟩
  have hkc : ∀ W, Turned (fun k => k = w.heap.size ∨ k = w.heap.size + 1) w2 W → UK p bb K v st c O m l W := fun W hW => h.turned0 (h2.1.step hW (fun i hi e => by omega))
  have hwx : ∀ W, Turned (fun _ => False) w2 W → Calls Try.prog 90 #[.pointer (some ⟨bb, 0, none⟩), x.val] W fun e w' => ∃ X : LT, e = .returned X.val ∧ X.In p w' ∧ X.bare = Tm.walkT (bt l) x.bare ∧ Turned (fun _ => False) W w' := fun W hW => walkO90 (h.bo.turned0 (h2.1.trans hW)) (hx.turned0 (h2.1.trans hW)) (Tm.good_ones' (Tm.ownB_iff.1 gx).1)
  have hwy : ∀ W, Turned (fun _ => False) w2 W → Calls Try.prog 90 #[.pointer (some ⟨bb, 0, none⟩), y.val] W fun e w' => ∃ X : LT, e = .returned X.val ∧ X.In p w' ∧ X.bare = Tm.walkT (bt l) y.bare ∧ Turned (fun _ => False) W w' := fun W hW => walkO90 (h.bo.turned0 (h2.1.trans hW)) (hy.turned0 (h2.1.trans hW)) (Tm.good_ones' (Tm.ownB_iff.1 gy).1)
  have wdx := Tm.walked h.bo.ok _ x.bare (Nat.le_refl _) (Tm.good_ones' (Tm.ownB_iff.1 gx).1)
  have wdy := Tm.walked h.bo.ok _ y.bare (Nat.le_refl _) (Tm.good_ones' (Tm.ownB_iff.1 gy).1)
  have owx := Tm.walkT_own h.bo.ok _ x.bare (Nat.le_refl _) gx
  have owy := Tm.walkT_own h.bo.ok _ y.bare (Nat.le_refl _) gy
  obtain ⟨X0, hX0⟩ : ∃ z, z = Tm.walkT (bt l) x.bare := ⟨_, rfl⟩
  obtain ⟨Y0, hY0⟩ : ∃ z, z = Tm.walkT (bt l) y.bare := ⟨_, rfl⟩
  rw [← hX0] at hwx wdx owx ⊢
  rw [← hY0] at hwy wdy owy ⊢
  obtain ⟨U, hU⟩ : ∃ z, z = Tm.oneU (bt l) (2000 - c) X0 Y0 := ⟨_, rfl⟩
  rw [← hU]
  rw [LT.val_eq] at hwx hwy ⊢
  rw [LT.val_eq y]
  have HU := Lib.hid hU
  have HWX := Lib.hid hwx
  have HWY := Lib.hid hwy
  have WDX := Lib.hid wdx
  have WDY := Lib.hid wdy
  have OWX := Lib.hid owx
  have OWY := Lib.hid owy
  have HKC := Lib.hid hkc
  have HBX := Lib.hid hbx
  have HW2 := Lib.hid hw2
  have HT2 := Lib.hid h2.1
  have HS2 := Lib.hid h2.2.1
  have hkl := (Array.getElem?_eq_some_iff.1 h.k).1
  have hKN : K ≠ w.heap.size := by omega
  have hKN1 : K ≠ w.heap.size + 1 := by omega
  have hNK : w.heap.size ≠ K := by omega
  have hNK1 : w.heap.size + 1 ≠ K := by omega
  have HUK := Lib.hid h
  have HPN : Hid (¬ p w.heap.size ∧ ¬ p (w.heap.size + 1)) := ⟨fun e => Nat.lt_irrefl _ (h.bo.plt _ e), fun e => by have := h.bo.plt _ e; omega⟩
  clear hU hX0 hY0 hwx hwy wdx wdy owx owy hkc hbx hw2 h2 hx hy gx gy h
  go_enter Try.func173, Try.ntmps173
  go_wp2_with fail
  rw [← HW2.out]
  refine wp_region_hsW [9, 10, 11, 12, 13, 14, 15, 16, 17, 18, 19, 20] [5, 11, 12, 13] [0, 0, 0, 0, 0, 1, 1, 1, 1, 1, 1, 2, 3, 4] [14, 20, 100012, 100013] (fun dd vv => (match dd with | 9 => vv = .pointer (some ⟨K, 0, none⟩) | 10 => vv = .pointer (some ⟨K, 0, none⟩) | 11 => vv = .pointer (some ⟨K, 0, none⟩) | 12 => vv = .pointer (some ⟨bb, 0, none⟩) | 13 => vv = .agg #[.int .i64 x.kind, .int .i64 x.n, .string x.name, .slice x.at_.1 x.args.length x.at_.2] | 15 => vv = .pointer (some ⟨K, 0, none⟩) | 16 => vv = .pointer (some ⟨K, 0, none⟩) | 17 => vv = .pointer (some ⟨K, 0, none⟩) | 18 => vv = .pointer (some ⟨bb, 0, none⟩) | 19 => vv = .agg #[.int .i64 y.kind, .int .i64 y.n, .string y.name, .slice y.at_.1 y.args.length y.at_.2] | _ => True : Prop)) (WkS p X0 Y0 w.heap.size w2) (by kernel_rfl) rfl (by kernel_rfl) (by kernel_rfl) (by kernel_rfl) (by kernel_rfl) (fun w h => h) (fun hs w w' h T => WkS.turned0 hs w w' h T) ?hs ?hQ
  case hs =>
    refine ⟨?s0, ?s1, ?s2, ?s3, ?s4, ?s5, ?s6, ?s7, ?s8, ?s9, ?s10, ?s11, ?s12, ?s13, trivial⟩
    case s0 =>
      refine fun hs hle => stepG_free [] [0] (by kernel_rfl) rfl ?_
      intro ac W hT hI hO
      have hle : hs.length ≤ 0 := hle
      have h0 : ac.tmps.getD 0 undef = .pointer (some ⟨K, 0, none⟩) := hO 0 (by simp)
      show Brings Try.prog (fun vv w' => Turned (fun _ => False) W w' ∧ vv = .pointer (some ⟨K, 0, none⟩)) _
      simp only [execOp, Act.eval, h0]
      go_simp
      try exact ⟨Turned.refl _ _, rfl⟩
    case s1 =>
      refine fun hs hle => stepG_free [9] [] (by kernel_rfl) rfl ?_
      intro ac W hT hI hO
      have hle : hs.length ≤ 0 := hle
      have h9 : ac.tmps.getD 9 undef = .pointer (some ⟨K, 0, none⟩) := hI 9 (by simp)
      show Brings Try.prog (fun vv w' => Turned (fun _ => False) W w' ∧ vv = .pointer (some ⟨K, 0, none⟩)) _
      obtain ⟨k0, k1, k2, kf1, kf2⟩ := (HKC.out W (WkS.turned hs W hT)).kcells
      simp only [execOp, Act.eval, h9]
      go_simp
      try exact ⟨Turned.refl _ _, rfl⟩
    case s2 =>
      refine fun hs hle => stepG_free [10] [] (by kernel_rfl) rfl ?_
      intro ac W hT hI hO
      have hle : hs.length ≤ 0 := hle
      have h10 : ac.tmps.getD 10 undef = .pointer (some ⟨K, 0, none⟩) := hI 10 (by simp)
      show Brings Try.prog (fun vv w' => Turned (fun _ => False) W w' ∧ vv = .pointer (some ⟨K, 0, none⟩)) _
      simp only [execOp, Act.eval, h10]
      go_simp
      try exact ⟨Turned.refl _ _, rfl⟩
    case s3 =>
      refine fun hs hle => stepG_free [11] [] (by kernel_rfl) rfl ?_
      intro ac W hT hI hO
      have hle : hs.length ≤ 0 := hle
      have h11 : ac.tmps.getD 11 undef = .pointer (some ⟨K, 0, none⟩) := hI 11 (by simp)
      show Brings Try.prog (fun vv w' => Turned (fun _ => False) W w' ∧ vv = .pointer (some ⟨bb, 0, none⟩)) _
      obtain ⟨k0, k1, k2, kf1, kf2⟩ := (HKC.out W (WkS.turned hs W hT)).kcells
      simp only [execOp, Act.eval, h11]
      go_simp
      try exact ⟨Turned.refl _ _, rfl⟩
    case s4 =>
      refine fun hs hle => stepG_free [] [4] (by kernel_rfl) rfl ?_
      intro ac W hT hI hO
      have hle : hs.length ≤ 0 := hle
      have h4 : ac.tmps.getD 4 undef = .pointer (some ⟨w.heap.size, 0, none⟩) := hO 4 (by simp)
      show Brings Try.prog (fun vv w' => Turned (fun _ => False) W w' ∧ vv = .agg #[.int .i64 x.kind, .int .i64 x.n, .string x.name, .slice x.at_.1 x.args.length x.at_.2]) _
      obtain ⟨c0, c1, c2, c3, _⟩ := cells4 (HBX.out W (WkS.early hs W (by omega) hT)).1
      simp only [execOp, Act.eval, h4]
      go_simp
      try exact ⟨Turned.refl _ _, rfl⟩
    case s5 =>
      refine fun hs hlen => stepG_free [12, 13] [] (by kernel_rfl) rfl ?_
      intro ac W hT hI hO
      have h12 : ac.tmps.getD 12 undef = .pointer (some ⟨bb, 0, none⟩) := hI 12 (by simp)
      have h13 : ac.tmps.getD 13 undef = .agg #[.int .i64 x.kind, .int .i64 x.n, .string x.name, .slice x.at_.1 x.args.length x.at_.2] := hI 13 (by simp)
      obtain rfl : hs = [] := List.eq_nil_of_length_eq_zero hlen
      replace hT : Turned (fun _ => False) w2 W := hT
      show Brings Try.prog (fun vv w' => WkS p X0 Y0 w.heap.size w2 [vv] w') _
      simp only [execOp, Act.eval, h12, h13]
      go_simp
      show Calls Try.prog 90 _ W _
      (with_reducible refine (HWX.out W hT).mono ?_)
      rintro e w' ⟨X, rfl, g1, g2, T'⟩
      exact ⟨_, rfl, hT.trans T', X, by rw [LT.val_eq], g1, g2⟩
    case s6 =>
      refine fun hs hle => stepG_free [] [0] (by kernel_rfl) rfl ?_
      intro ac W hT hI hO
      have hle : hs.length ≤ 1 := hle
      have h0 : ac.tmps.getD 0 undef = .pointer (some ⟨K, 0, none⟩) := hO 0 (by simp)
      show Brings Try.prog (fun vv w' => Turned (fun _ => False) W w' ∧ vv = .pointer (some ⟨K, 0, none⟩)) _
      simp only [execOp, Act.eval, h0]
      go_simp
      try exact ⟨Turned.refl _ _, rfl⟩
    case s7 =>
      refine fun hs hle => stepG_free [15] [] (by kernel_rfl) rfl ?_
      intro ac W hT hI hO
      have hle : hs.length ≤ 1 := hle
      have h15 : ac.tmps.getD 15 undef = .pointer (some ⟨K, 0, none⟩) := hI 15 (by simp)
      show Brings Try.prog (fun vv w' => Turned (fun _ => False) W w' ∧ vv = .pointer (some ⟨K, 0, none⟩)) _
      obtain ⟨k0, k1, k2, kf1, kf2⟩ := (HKC.out W (WkS.turned hs W hT)).kcells
      simp only [execOp, Act.eval, h15]
      go_simp
      try exact ⟨Turned.refl _ _, rfl⟩
    case s8 =>
      refine fun hs hle => stepG_free [16] [] (by kernel_rfl) rfl ?_
      intro ac W hT hI hO
      have hle : hs.length ≤ 1 := hle
      have h16 : ac.tmps.getD 16 undef = .pointer (some ⟨K, 0, none⟩) := hI 16 (by simp)
      show Brings Try.prog (fun vv w' => Turned (fun _ => False) W w' ∧ vv = .pointer (some ⟨K, 0, none⟩)) _
      simp only [execOp, Act.eval, h16]
      go_simp
      try exact ⟨Turned.refl _ _, rfl⟩
    case s9 =>
      refine fun hs hle => stepG_free [17] [] (by kernel_rfl) rfl ?_
      intro ac W hT hI hO
      have hle : hs.length ≤ 1 := hle
      have h17 : ac.tmps.getD 17 undef = .pointer (some ⟨K, 0, none⟩) := hI 17 (by simp)
      show Brings Try.prog (fun vv w' => Turned (fun _ => False) W w' ∧ vv = .pointer (some ⟨bb, 0, none⟩)) _
      obtain ⟨k0, k1, k2, kf1, kf2⟩ := (HKC.out W (WkS.turned hs W hT)).kcells
      simp only [execOp, Act.eval, h17]
      go_simp
      try exact ⟨Turned.refl _ _, rfl⟩
    case s10 =>
      refine fun hs hle => stepG_free [] [5] (by kernel_rfl) rfl ?_
      intro ac W hT hI hO
      have hle : hs.length ≤ 1 := hle
      have h5 : ac.tmps.getD 5 undef = .pointer (some ⟨w.heap.size + 1, 0, none⟩) := hO 5 (by simp)
      show Brings Try.prog (fun vv w' => Turned (fun _ => False) W w' ∧ vv = .agg #[.int .i64 y.kind, .int .i64 y.n, .string y.name, .slice y.at_.1 y.args.length y.at_.2]) _
      obtain ⟨c0, c1, c2, c3, _⟩ := cells4 (HBX.out W (WkS.early hs W (by omega) hT)).2
      simp only [execOp, Act.eval, h5]
      go_simp
      try exact ⟨Turned.refl _ _, rfl⟩
    case s11 =>
      refine fun hs hlen => stepG_free [18, 19] [] (by kernel_rfl) rfl ?_
      intro ac W hT hI hO
      have h18 : ac.tmps.getD 18 undef = .pointer (some ⟨bb, 0, none⟩) := hI 18 (by simp)
      have h19 : ac.tmps.getD 19 undef = .agg #[.int .i64 y.kind, .int .i64 y.n, .string y.name, .slice y.at_.1 y.args.length y.at_.2] := hI 19 (by simp)
      obtain ⟨a, rfl⟩ := List.length_eq_one_iff.1 hlen
      obtain ⟨hT1, X, x1, x2, x3⟩ := hT
      show Brings Try.prog (fun vv w' => WkS p X0 Y0 w.heap.size w2 [a, vv] w') _
      simp only [execOp, Act.eval, h18, h19]
      go_simp
      show Calls Try.prog 90 _ W _
      (with_reducible refine (HWY.out W hT1).mono ?_)
      rintro e w' ⟨Y, rfl, g1, g2, T'⟩
      exact ⟨_, rfl, hT1.trans T', ⟨X, by first | rfl | exact x1, x2.turned0 T', x3⟩, Y, by rw [LT.val_eq], g1, g2⟩
    case s12 =>
      refine fun hs hlen => stepG_free [14] [4] (by kernel_rfl) rfl ?_
      intro ac W hT hI hO
      have h14 : hs[0]? = some (ac.tmps.getD 14 undef) := hI 14 (by simp)
      have h4 : ac.tmps.getD 4 undef = .pointer (some ⟨w.heap.size, 0, none⟩) := hO 4 (by simp)
      obtain ⟨a, b, rfl⟩ := list2' hlen
      have e14 : a = ac.tmps.getD 14 undef := by simpa using h14
      have hbW := (HBX.out W hT.1).1
      obtain ⟨c0, c1, c2, c3, f0, f1, f2, f3⟩ := cells4 hbW
      obtain ⟨X, x1, x2, x3⟩ := hT.2.1
      have HST := Lib.hid (fun q => WkS.store1 (q := q) hT x1 x2 x3 ⟨_, _, _, _, hbW⟩ HPN.out.1)
      show Brings Try.prog (fun vv w' => WkS p X0 Y0 w.heap.size w2 [a, b, vv] w') _
      rw [e14] at x1
      simp only [execOp, Act.eval, h4, x1]
      clear hbW hT x2 x3 e14 x1
      go_simp
      exact HST.out undef
    case s13 =>
      refine fun hs hlen => stepG_free [20] [5] (by kernel_rfl) rfl ?_
      intro ac W hT hI hO
      have h20 : hs[1]? = some (ac.tmps.getD 20 undef) := hI 20 (by simp)
      have h5 : ac.tmps.getD 5 undef = .pointer (some ⟨w.heap.size + 1, 0, none⟩) := hO 5 (by simp)
      obtain ⟨a, b, cc, rfl⟩ := list3' hlen
      have e20 : b = ac.tmps.getD 20 undef := by simpa using h20
      have hbW : W.heap[w.heap.size + 1]? = some (.cells #[.int .i64 y.kind, .int .i64 y.n, .string y.name, .slice y.at_.1 y.args.length y.at_.2] 27 (0, 0)) := (hT.1.block _ (by have := HS2.out; omega) (by omega)).trans (HBX.out w2 (Turned.refl _ _)).2
      obtain ⟨c0, c1, c2, c3, f0, f1, f2, f3⟩ := cells4 hbW
      obtain ⟨Y, y1, y2, y3⟩ := hT.2.2
      have HST := Lib.hid (fun q => WkS.store2 (q := q) hT y2 y3 ⟨_, _, _, _, hbW⟩ HPN.out.2)
      show Brings Try.prog (fun vv w' => WkS p X0 Y0 w.heap.size w2 [a, b, cc, vv] w') _
      rw [e20] at y1
      simp only [execOp, Act.eval, h5, y1]
      clear hbW hT y2 y3 e20 y1
      go_simp
      exact HST.out undef
  case hQ =>
    intro hs vs w3 hlen hR hV
    simp only [List.foldl_cons, List.foldl_nil, List.setIfInBounds_toArray, List.set_cons_zero, List.set_cons_succ]
    obtain ⟨e1, e2, e3, e4, rfl⟩ := list4' hlen
    obtain ⟨T3, ⟨X, hbx, hxi, rfl⟩, Y, hby, hyi, rfl⟩ := hR
    have HT3 := Lib.hid (HT2.out.step T3 (fun i hi e => by omega))
    have HK3 := Lib.hid (HKC.out w3 T3)
    have HXB := Lib.hid hbx
    have HYB := Lib.hid hby
    have HXI := Lib.hid hxi
    have HYI := Lib.hid hyi
    obtain ⟨c0, c1, c2, c3, f0, f1, f2, f3⟩ := cells4 hbx
    obtain ⟨d0, d1, d2, d3, g0, g1, g2, g3⟩ := cells4 hby
    clear T3 hbx hby hxi hyi hlen hV
    obtain ⟨k0, k1, k2, kf1, kf2⟩ := HK3.out.kcells
    have hok := HK3.out.bo.ok
    have hm65 := HK3.out.bo.most
    by_cases hxk : X.kind = 0
    · have vX := Tm.ownB_var OWX.out (by rw [Tm.bare_kind]; exact hxk)
      have fX := WDX.out.free (by rw [Tm.bare_kind]; exact hxk)
      rw [Tm.bare_n] at vX fX
      have bx : (X.kind == 0) = true := by simp [hxk]
      by_cases hyk : Y.kind = 0
      · have vY := Tm.ownB_var OWY.out (by rw [Tm.bare_kind]; exact hyk)
        have fY := WDY.out.free (by rw [Tm.bare_kind]; exact hyk)
        rw [Tm.bare_n] at vY fY
        have by_ : (Y.kind == 0) = true := by simp [hyk]
        by_cases hn : X.n = Y.n
        · have bn : (X.n == Y.n) = true := by simp [hn]
          have HE := Lib.hid (HU.out.trans (oneU_same hxk hyk hn))
          clear hxk hyk hn vX vY fX fY hok
          go_wp2_with fail
          go_ret2
          rw [HE.out]
          refine ⟨v, rfl, rfl, ?_⟩
          rw [show (2000 - ((2000 - c : Nat) : Int)) = (c : Int) from by omega]
          exact UA.same HK3.out (HT3.out.mono (fun _ _ f => f.elim))
        · have bn : (X.n == Y.n) = false := by simp [hn]
          have HE := Lib.hid (HU.out.trans (oneU_vars hxk hyk hn))
          by_cases hlt : X.n < Y.n
          · rw [Int.max_eq_right (by omega), Int.min_eq_left (by omega)] at HE
            have HSE := Lib.hid (setE_vars hok hm65 vY.1 vY.2.1 vX.1 vX.2.1 fY fX (fun e => hn e.symm))
            have hnlt : ¬ Y.n < X.n := by omega
            have hb0 : 0 ≤ X.n ∧ X.n < 65536 ∧ 0 ≤ Y.n ∧ Y.n < 65536 := by omega
            clear hxk hyk hn vX vY fX fY hok
            go_wp2_with fail
            refine wp_region_hsW [35, 36, 37, 38, 39, 40, 41, 42, 43, 44, 45, 46, 47, 48, 49, 50, 6, 7] [14, 15] [1, 1, 1, 1, 1, 1, 1, 1, 1, 0, 0, 0, 0, 0, 1, 2, 2, 2] [49, 50] (fun dd vv => (match dd with | 35 => vv = .pointer (some ⟨K, 0, none⟩) | 36 => vv = .pointer (some ⟨K, 0, none⟩) | 37 => vv = .pointer (some ⟨K, 0, none⟩) | 38 => vv = .pointer (some ⟨bb, 0, none⟩) | 39 => vv = .pointer (some ⟨w.heap.size, 1, none⟩) | 40 => vv = .int .i64 X.n | 41 => vv = .pointer (some ⟨w.heap.size + 1, 1, none⟩) | 42 => vv = .int .i64 Y.n | 43 => vv = .int .i64 Y.n | 44 => vv = .pointer (some ⟨w.heap.size, 1, none⟩) | 45 => vv = .int .i64 X.n | 46 => vv = .pointer (some ⟨w.heap.size + 1, 1, none⟩) | 47 => vv = .int .i64 Y.n | 48 => vv = .int .i64 X.n | 6 => vv = .bool true | 7 => vv = .int .i64 0 | _ => True : Prop)) (VarS p bb O m l Y.n X.n w3) (by kernel_rfl) rfl (by kernel_rfl) (by kernel_rfl) (by kernel_rfl) (by kernel_rfl) (fun w h => h) (fun hs w w' h T => VarS.turned0 hs w w' h T) ?hs ?hQ
            case hs =>
              refine ⟨?s0, ?s1, ?s2, ?s3, ?s4, ?s5, ?s6, ?s7, ?s8, ?s9, ?s10, ?s11, ?s12, ?s13, ?s14, ?s15, ?s16, ?s17, trivial⟩
              case s0 =>
                refine fun hs hle => stepG_free [] [0] (by kernel_rfl) rfl ?_
                intro ac W hT hI hO
                have hle : hs.length ≤ 1 := hle
                have h0 : ac.tmps.getD 0 undef = .pointer (some ⟨K, 0, none⟩) := hO 0 (by simp)
                show Brings Try.prog (fun vv w' => Turned (fun _ => False) W w' ∧ vv = .pointer (some ⟨K, 0, none⟩)) _
                simp only [execOp, Act.eval, h0]
                go_simp
                try exact ⟨Turned.refl _ _, rfl⟩
              case s1 =>
                refine fun hs hle => stepG_free [35] [] (by kernel_rfl) rfl ?_
                intro ac W hT hI hO
                have hle : hs.length ≤ 1 := hle
                have h35 : ac.tmps.getD 35 undef = .pointer (some ⟨K, 0, none⟩) := hI 35 (by simp)
                show Brings Try.prog (fun vv w' => Turned (fun _ => False) W w' ∧ vv = .pointer (some ⟨K, 0, none⟩)) _
                obtain ⟨k0, k1, k2, kf1, kf2⟩ := (HK3.out.turned0 (VarS.turned hs W hle hT)).kcells
                simp only [execOp, Act.eval, h35]
                go_simp
                try exact ⟨Turned.refl _ _, rfl⟩
              case s2 =>
                refine fun hs hle => stepG_free [36] [] (by kernel_rfl) rfl ?_
                intro ac W hT hI hO
                have hle : hs.length ≤ 1 := hle
                have h36 : ac.tmps.getD 36 undef = .pointer (some ⟨K, 0, none⟩) := hI 36 (by simp)
                show Brings Try.prog (fun vv w' => Turned (fun _ => False) W w' ∧ vv = .pointer (some ⟨K, 0, none⟩)) _
                simp only [execOp, Act.eval, h36]
                go_simp
                try exact ⟨Turned.refl _ _, rfl⟩
              case s3 =>
                refine fun hs hle => stepG_free [37] [] (by kernel_rfl) rfl ?_
                intro ac W hT hI hO
                have hle : hs.length ≤ 1 := hle
                have h37 : ac.tmps.getD 37 undef = .pointer (some ⟨K, 0, none⟩) := hI 37 (by simp)
                show Brings Try.prog (fun vv w' => Turned (fun _ => False) W w' ∧ vv = .pointer (some ⟨bb, 0, none⟩)) _
                obtain ⟨k0, k1, k2, kf1, kf2⟩ := (HK3.out.turned0 (VarS.turned hs W hle hT)).kcells
                simp only [execOp, Act.eval, h37]
                go_simp
                try exact ⟨Turned.refl _ _, rfl⟩
              case s4 =>
                refine fun hs hle => stepG_free [] [4] (by kernel_rfl) rfl ?_
                intro ac W hT hI hO
                have hle : hs.length ≤ 1 := hle
                have h4 : ac.tmps.getD 4 undef = .pointer (some ⟨w.heap.size, 0, none⟩) := hO 4 (by simp)
                show Brings Try.prog (fun vv w' => Turned (fun _ => False) W w' ∧ vv = .pointer (some ⟨w.heap.size, 1, none⟩)) _
                simp only [execOp, Act.eval, h4]
                go_simp
                try exact ⟨Turned.refl _ _, rfl⟩
              case s5 =>
                refine fun hs hle => stepG_free [39] [] (by kernel_rfl) rfl ?_
                intro ac W hT hI hO
                have hle : hs.length ≤ 1 := hle
                have h39 : ac.tmps.getD 39 undef = .pointer (some ⟨w.heap.size, 1, none⟩) := hI 39 (by simp)
                show Brings Try.prog (fun vv w' => Turned (fun _ => False) W w' ∧ vv = .int .i64 X.n) _
                obtain ⟨c0, c1, c2, c3, _⟩ := cells4 (((VarS.turned hs W (by omega) hT).block _ (Array.getElem?_eq_some_iff.1 HXB.out).1 (fun f => f)).trans HXB.out)
                simp only [execOp, Act.eval, h39]
                go_simp
                try exact ⟨Turned.refl _ _, rfl⟩
              case s6 =>
                refine fun hs hle => stepG_free [] [5] (by kernel_rfl) rfl ?_
                intro ac W hT hI hO
                have hle : hs.length ≤ 1 := hle
                have h5 : ac.tmps.getD 5 undef = .pointer (some ⟨w.heap.size + 1, 0, none⟩) := hO 5 (by simp)
                show Brings Try.prog (fun vv w' => Turned (fun _ => False) W w' ∧ vv = .pointer (some ⟨w.heap.size + 1, 1, none⟩)) _
                simp only [execOp, Act.eval, h5]
                go_simp
                try exact ⟨Turned.refl _ _, rfl⟩
              case s7 =>
                refine fun hs hle => stepG_free [41] [] (by kernel_rfl) rfl ?_
                intro ac W hT hI hO
                have hle : hs.length ≤ 1 := hle
                have h41 : ac.tmps.getD 41 undef = .pointer (some ⟨w.heap.size + 1, 1, none⟩) := hI 41 (by simp)
                show Brings Try.prog (fun vv w' => Turned (fun _ => False) W w' ∧ vv = .int .i64 Y.n) _
                obtain ⟨c0, c1, c2, c3, _⟩ := cells4 (((VarS.turned hs W (by omega) hT).block _ (Array.getElem?_eq_some_iff.1 HYB.out).1 (fun f => f)).trans HYB.out)
                simp only [execOp, Act.eval, h41]
                go_simp
                try exact ⟨Turned.refl _ _, rfl⟩
              case s8 =>
                refine fun hs hle => stepG_free [40, 42] [] (by kernel_rfl) rfl ?_
                intro ac W hT hI hO
                have hle : hs.length ≤ 1 := hle
                have h40 : ac.tmps.getD 40 undef = .int .i64 X.n := hI 40 (by simp)
                have h42 : ac.tmps.getD 42 undef = .int .i64 Y.n := hI 42 (by simp)
                show Brings Try.prog (fun vv w' => Turned (fun _ => False) W w' ∧ vv = .int .i64 Y.n) _
                simp only [execOp, Act.eval, h40, h42]
                go_simp
                try rw [if_pos (by omega)]
                try rw [if_neg (by omega)]
                try exact ⟨Turned.refl _ _, rfl⟩
              case s9 =>
                refine fun hs hle => stepG_free [] [4] (by kernel_rfl) rfl ?_
                intro ac W hT hI hO
                have hle : hs.length ≤ 0 := hle
                have h4 : ac.tmps.getD 4 undef = .pointer (some ⟨w.heap.size, 0, none⟩) := hO 4 (by simp)
                show Brings Try.prog (fun vv w' => Turned (fun _ => False) W w' ∧ vv = .pointer (some ⟨w.heap.size, 1, none⟩)) _
                simp only [execOp, Act.eval, h4]
                go_simp
                try exact ⟨Turned.refl _ _, rfl⟩
              case s10 =>
                refine fun hs hle => stepG_free [44] [] (by kernel_rfl) rfl ?_
                intro ac W hT hI hO
                have hle : hs.length ≤ 0 := hle
                have h44 : ac.tmps.getD 44 undef = .pointer (some ⟨w.heap.size, 1, none⟩) := hI 44 (by simp)
                show Brings Try.prog (fun vv w' => Turned (fun _ => False) W w' ∧ vv = .int .i64 X.n) _
                obtain ⟨c0, c1, c2, c3, _⟩ := cells4 (((VarS.turned hs W (by omega) hT).block _ (Array.getElem?_eq_some_iff.1 HXB.out).1 (fun f => f)).trans HXB.out)
                simp only [execOp, Act.eval, h44]
                go_simp
                try exact ⟨Turned.refl _ _, rfl⟩
              case s11 =>
                refine fun hs hle => stepG_free [] [5] (by kernel_rfl) rfl ?_
                intro ac W hT hI hO
                have hle : hs.length ≤ 0 := hle
                have h5 : ac.tmps.getD 5 undef = .pointer (some ⟨w.heap.size + 1, 0, none⟩) := hO 5 (by simp)
                show Brings Try.prog (fun vv w' => Turned (fun _ => False) W w' ∧ vv = .pointer (some ⟨w.heap.size + 1, 1, none⟩)) _
                simp only [execOp, Act.eval, h5]
                go_simp
                try exact ⟨Turned.refl _ _, rfl⟩
              case s12 =>
                refine fun hs hle => stepG_free [46] [] (by kernel_rfl) rfl ?_
                intro ac W hT hI hO
                have hle : hs.length ≤ 0 := hle
                have h46 : ac.tmps.getD 46 undef = .pointer (some ⟨w.heap.size + 1, 1, none⟩) := hI 46 (by simp)
                show Brings Try.prog (fun vv w' => Turned (fun _ => False) W w' ∧ vv = .int .i64 Y.n) _
                obtain ⟨c0, c1, c2, c3, _⟩ := cells4 (((VarS.turned hs W (by omega) hT).block _ (Array.getElem?_eq_some_iff.1 HYB.out).1 (fun f => f)).trans HYB.out)
                simp only [execOp, Act.eval, h46]
                go_simp
                try exact ⟨Turned.refl _ _, rfl⟩
              case s13 =>
                refine fun hs hle => stepG_free [45, 47] [] (by kernel_rfl) rfl ?_
                intro ac W hT hI hO
                have hle : hs.length ≤ 0 := hle
                have h45 : ac.tmps.getD 45 undef = .int .i64 X.n := hI 45 (by simp)
                have h47 : ac.tmps.getD 47 undef = .int .i64 Y.n := hI 47 (by simp)
                show Brings Try.prog (fun vv w' => Turned (fun _ => False) W w' ∧ vv = .int .i64 X.n) _
                simp only [execOp, Act.eval, h45, h47]
                go_simp
                try rw [if_pos (by omega)]
                try rw [if_neg (by omega)]
                try exact ⟨Turned.refl _ _, rfl⟩
              case s14 =>
                refine fun hs hlen => stepG_free [48] [] (by kernel_rfl) rfl ?_
                intro ac W hT hI hO
                have h48 : ac.tmps.getD 48 undef = .int .i64 X.n := hI 48 (by simp)
                obtain rfl : hs = [] := List.eq_nil_of_length_eq_zero hlen
                replace hT : Turned (fun _ => False) w3 W := hT
                show Brings Try.prog (fun vv w' => VarS p bb O m l Y.n X.n w3 [vv] w') _
                simp only [execOp, Act.eval, h48]
                go_simp
                show Calls Try.prog 62 _ W _
                (with_reducible refine (varE X.n (by unfold I64; omega) W).mono ?_)
                rintro e w' ⟨rfl, T'⟩
                exact ⟨_, rfl, hT.trans T', rfl⟩
              case s15 =>
                refine fun hs hlen => stepG_free [38, 43, 49] [] (by kernel_rfl) rfl ?_
                intro ac W hT hI hO
                have h38 : ac.tmps.getD 38 undef = .pointer (some ⟨bb, 0, none⟩) := hI 38 (by simp)
                have h43 : ac.tmps.getD 43 undef = .int .i64 Y.n := hI 43 (by simp)
                have h49 : hs[0]? = some (ac.tmps.getD 49 undef) := hI 49 (by simp)
                obtain ⟨a, rfl⟩ := List.length_eq_one_iff.1 hlen
                obtain ⟨hT1, ha⟩ := hT
                have e49 : a = ac.tmps.getD 49 undef := by simpa using h49
                rw [e49] at ha
                show Brings Try.prog (fun vv w' => VarS p bb O m l Y.n X.n w3 [a, vv] w') _
                have HS88 := Lib.hid (setVar (HK3.out.bo.turned0 hT1) (n := Y.n) (k := X.n) (by unfold I64; omega) (by unfold I64; omega) HSE.out)
                simp only [execOp, Act.eval, h38, h43, ha]
                go_simp
                show Calls Try.prog 88 _ W _
                (with_reducible refine HS88.out.mono ?_)
                rintro e w' ⟨rfl, l2, hl2, A⟩
                exact ⟨_, rfl, rfl, l2, hl2, A.from0 hT1⟩
              case s16 =>
                refine fun hs hle => stepG_free [] [] (by kernel_rfl) rfl ?_
                intro ac W hT hI hO
                have hle : hs.length ≤ 2 := hle
                show Brings Try.prog (fun vv w' => Turned (fun _ => False) W w' ∧ vv = .bool true) _
                simp only [execOp, Act.eval]
                go_simp
                try exact ⟨Turned.refl _ _, rfl⟩
              case s17 =>
                refine fun hs hle => stepG_free [50] [] (by kernel_rfl) rfl ?_
                intro ac W hT hI hO
                have hle : hs.length ≤ 2 := hle
                have h50 : hs[1]? = some (ac.tmps.getD 50 undef) := hI 50 (by simp)
                show Brings Try.prog (fun vv w' => Turned (fun _ => False) W w' ∧ vv = .int .i64 0) _
                have e50 := VarS.val hs W hT h50
                simp only [execOp, Act.eval, e50]
                go_simp
                try exact ⟨Turned.refl _ _, rfl⟩
            case hQ =>
              intro hs5 vs5 w5 hlen hR hV
              have q6 : vs5 6 = .bool true := hV 6 (by simp)
              have q7 : vs5 7 = .int .i64 0 := hV 7 (by simp)
              simp only [List.foldl_cons, List.foldl_nil, List.setIfInBounds_toArray, List.set_cons_zero, List.set_cons_succ, q6, q7]
              obtain ⟨e1, e2, rfl⟩ := list2' hlen
              obtain ⟨_, l2, hl2, A5⟩ := hR
              have HA5 := Lib.hid A5
              have HL2 := Lib.hid hl2
              clear A5 hl2 hlen hV q6 q7
              go_wp2_with fail
              go_ret2
              rw [HE.out]
              refine ⟨v, rfl, rfl, ?_⟩
              rw [show (2000 - ((2000 - c : Nat) : Int)) = (c : Int) from by omega]
              obtain ⟨O', u1, u2, u3⟩ := HK3.out.after HA5.out
              exact UA.from HT3.out ⟨l2, O', HL2.out, u1, u2, u3.mono (fun _ _ e => .inr (.inr e))⟩
          · rw [Int.max_eq_left (by omega), Int.min_eq_right (by omega)] at HE
            have HSE := Lib.hid (setE_vars hok hm65 vX.1 vX.2.1 vY.1 vY.2.1 fX fY hn)
            have hgt : Y.n < X.n := by omega
            have hb0 : 0 ≤ X.n ∧ X.n < 65536 ∧ 0 ≤ Y.n ∧ Y.n < 65536 := by omega
            clear hxk hyk hn vX vY fX fY hok
            go_wp2_with fail
            refine wp_region_hsW [35, 36, 37, 38, 39, 40, 41, 42, 43, 44, 45, 46, 47, 48, 49, 50, 6, 7] [14, 15] [1, 1, 1, 1, 1, 1, 1, 1, 1, 0, 0, 0, 0, 0, 1, 2, 2, 2] [49, 50] (fun dd vv => (match dd with | 35 => vv = .pointer (some ⟨K, 0, none⟩) | 36 => vv = .pointer (some ⟨K, 0, none⟩) | 37 => vv = .pointer (some ⟨K, 0, none⟩) | 38 => vv = .pointer (some ⟨bb, 0, none⟩) | 39 => vv = .pointer (some ⟨w.heap.size, 1, none⟩) | 40 => vv = .int .i64 X.n | 41 => vv = .pointer (some ⟨w.heap.size + 1, 1, none⟩) | 42 => vv = .int .i64 Y.n | 43 => vv = .int .i64 X.n | 44 => vv = .pointer (some ⟨w.heap.size, 1, none⟩) | 45 => vv = .int .i64 X.n | 46 => vv = .pointer (some ⟨w.heap.size + 1, 1, none⟩) | 47 => vv = .int .i64 Y.n | 48 => vv = .int .i64 Y.n | 6 => vv = .bool true | 7 => vv = .int .i64 0 | _ => True : Prop)) (VarS p bb O m l X.n Y.n w3) (by kernel_rfl) rfl (by kernel_rfl) (by kernel_rfl) (by kernel_rfl) (by kernel_rfl) (fun w h => h) (fun hs w w' h T => VarS.turned0 hs w w' h T) ?hs ?hQ
            case hs =>
              refine ⟨?s0, ?s1, ?s2, ?s3, ?s4, ?s5, ?s6, ?s7, ?s8, ?s9, ?s10, ?s11, ?s12, ?s13, ?s14, ?s15, ?s16, ?s17, trivial⟩
              case s0 =>
                refine fun hs hle => stepG_free [] [0] (by kernel_rfl) rfl ?_
                intro ac W hT hI hO
                have hle : hs.length ≤ 1 := hle
                have h0 : ac.tmps.getD 0 undef = .pointer (some ⟨K, 0, none⟩) := hO 0 (by simp)
                show Brings Try.prog (fun vv w' => Turned (fun _ => False) W w' ∧ vv = .pointer (some ⟨K, 0, none⟩)) _
                simp only [execOp, Act.eval, h0]
                go_simp
                try exact ⟨Turned.refl _ _, rfl⟩
              case s1 =>
                refine fun hs hle => stepG_free [35] [] (by kernel_rfl) rfl ?_
                intro ac W hT hI hO
                have hle : hs.length ≤ 1 := hle
                have h35 : ac.tmps.getD 35 undef = .pointer (some ⟨K, 0, none⟩) := hI 35 (by simp)
                show Brings Try.prog (fun vv w' => Turned (fun _ => False) W w' ∧ vv = .pointer (some ⟨K, 0, none⟩)) _
                obtain ⟨k0, k1, k2, kf1, kf2⟩ := (HK3.out.turned0 (VarS.turned hs W hle hT)).kcells
                simp only [execOp, Act.eval, h35]
                go_simp
                try exact ⟨Turned.refl _ _, rfl⟩
              case s2 =>
                refine fun hs hle => stepG_free [36] [] (by kernel_rfl) rfl ?_
                intro ac W hT hI hO
                have hle : hs.length ≤ 1 := hle
                have h36 : ac.tmps.getD 36 undef = .pointer (some ⟨K, 0, none⟩) := hI 36 (by simp)
                show Brings Try.prog (fun vv w' => Turned (fun _ => False) W w' ∧ vv = .pointer (some ⟨K, 0, none⟩)) _
                simp only [execOp, Act.eval, h36]
                go_simp
                try exact ⟨Turned.refl _ _, rfl⟩
              case s3 =>
                refine fun hs hle => stepG_free [37] [] (by kernel_rfl) rfl ?_
                intro ac W hT hI hO
                have hle : hs.length ≤ 1 := hle
                have h37 : ac.tmps.getD 37 undef = .pointer (some ⟨K, 0, none⟩) := hI 37 (by simp)
                show Brings Try.prog (fun vv w' => Turned (fun _ => False) W w' ∧ vv = .pointer (some ⟨bb, 0, none⟩)) _
                obtain ⟨k0, k1, k2, kf1, kf2⟩ := (HK3.out.turned0 (VarS.turned hs W hle hT)).kcells
                simp only [execOp, Act.eval, h37]
                go_simp
                try exact ⟨Turned.refl _ _, rfl⟩
              case s4 =>
                refine fun hs hle => stepG_free [] [4] (by kernel_rfl) rfl ?_
                intro ac W hT hI hO
                have hle : hs.length ≤ 1 := hle
                have h4 : ac.tmps.getD 4 undef = .pointer (some ⟨w.heap.size, 0, none⟩) := hO 4 (by simp)
                show Brings Try.prog (fun vv w' => Turned (fun _ => False) W w' ∧ vv = .pointer (some ⟨w.heap.size, 1, none⟩)) _
                simp only [execOp, Act.eval, h4]
                go_simp
                try exact ⟨Turned.refl _ _, rfl⟩
              case s5 =>
                refine fun hs hle => stepG_free [39] [] (by kernel_rfl) rfl ?_
                intro ac W hT hI hO
                have hle : hs.length ≤ 1 := hle
                have h39 : ac.tmps.getD 39 undef = .pointer (some ⟨w.heap.size, 1, none⟩) := hI 39 (by simp)
                show Brings Try.prog (fun vv w' => Turned (fun _ => False) W w' ∧ vv = .int .i64 X.n) _
                obtain ⟨c0, c1, c2, c3, _⟩ := cells4 (((VarS.turned hs W (by omega) hT).block _ (Array.getElem?_eq_some_iff.1 HXB.out).1 (fun f => f)).trans HXB.out)
                simp only [execOp, Act.eval, h39]
                go_simp
                try exact ⟨Turned.refl _ _, rfl⟩
              case s6 =>
                refine fun hs hle => stepG_free [] [5] (by kernel_rfl) rfl ?_
                intro ac W hT hI hO
                have hle : hs.length ≤ 1 := hle
                have h5 : ac.tmps.getD 5 undef = .pointer (some ⟨w.heap.size + 1, 0, none⟩) := hO 5 (by simp)
                show Brings Try.prog (fun vv w' => Turned (fun _ => False) W w' ∧ vv = .pointer (some ⟨w.heap.size + 1, 1, none⟩)) _
                simp only [execOp, Act.eval, h5]
                go_simp
                try exact ⟨Turned.refl _ _, rfl⟩
              case s7 =>
                refine fun hs hle => stepG_free [41] [] (by kernel_rfl) rfl ?_
                intro ac W hT hI hO
                have hle : hs.length ≤ 1 := hle
                have h41 : ac.tmps.getD 41 undef = .pointer (some ⟨w.heap.size + 1, 1, none⟩) := hI 41 (by simp)
                show Brings Try.prog (fun vv w' => Turned (fun _ => False) W w' ∧ vv = .int .i64 Y.n) _
                obtain ⟨c0, c1, c2, c3, _⟩ := cells4 (((VarS.turned hs W (by omega) hT).block _ (Array.getElem?_eq_some_iff.1 HYB.out).1 (fun f => f)).trans HYB.out)
                simp only [execOp, Act.eval, h41]
                go_simp
                try exact ⟨Turned.refl _ _, rfl⟩
              case s8 =>
                refine fun hs hle => stepG_free [40, 42] [] (by kernel_rfl) rfl ?_
                intro ac W hT hI hO
                have hle : hs.length ≤ 1 := hle
                have h40 : ac.tmps.getD 40 undef = .int .i64 X.n := hI 40 (by simp)
                have h42 : ac.tmps.getD 42 undef = .int .i64 Y.n := hI 42 (by simp)
                show Brings Try.prog (fun vv w' => Turned (fun _ => False) W w' ∧ vv = .int .i64 X.n) _
                simp only [execOp, Act.eval, h40, h42]
                go_simp
                try rw [if_pos (by omega)]
                try rw [if_neg (by omega)]
                try exact ⟨Turned.refl _ _, rfl⟩
              case s9 =>
                refine fun hs hle => stepG_free [] [4] (by kernel_rfl) rfl ?_
                intro ac W hT hI hO
                have hle : hs.length ≤ 0 := hle
                have h4 : ac.tmps.getD 4 undef = .pointer (some ⟨w.heap.size, 0, none⟩) := hO 4 (by simp)
                show Brings Try.prog (fun vv w' => Turned (fun _ => False) W w' ∧ vv = .pointer (some ⟨w.heap.size, 1, none⟩)) _
                simp only [execOp, Act.eval, h4]
                go_simp
                try exact ⟨Turned.refl _ _, rfl⟩
              case s10 =>
                refine fun hs hle => stepG_free [44] [] (by kernel_rfl) rfl ?_
                intro ac W hT hI hO
                have hle : hs.length ≤ 0 := hle
                have h44 : ac.tmps.getD 44 undef = .pointer (some ⟨w.heap.size, 1, none⟩) := hI 44 (by simp)
                show Brings Try.prog (fun vv w' => Turned (fun _ => False) W w' ∧ vv = .int .i64 X.n) _
                obtain ⟨c0, c1, c2, c3, _⟩ := cells4 (((VarS.turned hs W (by omega) hT).block _ (Array.getElem?_eq_some_iff.1 HXB.out).1 (fun f => f)).trans HXB.out)
                simp only [execOp, Act.eval, h44]
                go_simp
                try exact ⟨Turned.refl _ _, rfl⟩
              case s11 =>
                refine fun hs hle => stepG_free [] [5] (by kernel_rfl) rfl ?_
                intro ac W hT hI hO
                have hle : hs.length ≤ 0 := hle
                have h5 : ac.tmps.getD 5 undef = .pointer (some ⟨w.heap.size + 1, 0, none⟩) := hO 5 (by simp)
                show Brings Try.prog (fun vv w' => Turned (fun _ => False) W w' ∧ vv = .pointer (some ⟨w.heap.size + 1, 1, none⟩)) _
                simp only [execOp, Act.eval, h5]
                go_simp
                try exact ⟨Turned.refl _ _, rfl⟩
              case s12 =>
                refine fun hs hle => stepG_free [46] [] (by kernel_rfl) rfl ?_
                intro ac W hT hI hO
                have hle : hs.length ≤ 0 := hle
                have h46 : ac.tmps.getD 46 undef = .pointer (some ⟨w.heap.size + 1, 1, none⟩) := hI 46 (by simp)
                show Brings Try.prog (fun vv w' => Turned (fun _ => False) W w' ∧ vv = .int .i64 Y.n) _
                obtain ⟨c0, c1, c2, c3, _⟩ := cells4 (((VarS.turned hs W (by omega) hT).block _ (Array.getElem?_eq_some_iff.1 HYB.out).1 (fun f => f)).trans HYB.out)
                simp only [execOp, Act.eval, h46]
                go_simp
                try exact ⟨Turned.refl _ _, rfl⟩
              case s13 =>
                refine fun hs hle => stepG_free [45, 47] [] (by kernel_rfl) rfl ?_
                intro ac W hT hI hO
                have hle : hs.length ≤ 0 := hle
                have h45 : ac.tmps.getD 45 undef = .int .i64 X.n := hI 45 (by simp)
                have h47 : ac.tmps.getD 47 undef = .int .i64 Y.n := hI 47 (by simp)
                show Brings Try.prog (fun vv w' => Turned (fun _ => False) W w' ∧ vv = .int .i64 Y.n) _
                simp only [execOp, Act.eval, h45, h47]
                go_simp
                try rw [if_pos (by omega)]
                try rw [if_neg (by omega)]
                try exact ⟨Turned.refl _ _, rfl⟩
              case s14 =>
                refine fun hs hlen => stepG_free [48] [] (by kernel_rfl) rfl ?_
                intro ac W hT hI hO
                have h48 : ac.tmps.getD 48 undef = .int .i64 Y.n := hI 48 (by simp)
                obtain rfl : hs = [] := List.eq_nil_of_length_eq_zero hlen
                replace hT : Turned (fun _ => False) w3 W := hT
                show Brings Try.prog (fun vv w' => VarS p bb O m l X.n Y.n w3 [vv] w') _
                simp only [execOp, Act.eval, h48]
                go_simp
                show Calls Try.prog 62 _ W _
                (with_reducible refine (varE Y.n (by unfold I64; omega) W).mono ?_)
                rintro e w' ⟨rfl, T'⟩
                exact ⟨_, rfl, hT.trans T', rfl⟩
              case s15 =>
                refine fun hs hlen => stepG_free [38, 43, 49] [] (by kernel_rfl) rfl ?_
                intro ac W hT hI hO
                have h38 : ac.tmps.getD 38 undef = .pointer (some ⟨bb, 0, none⟩) := hI 38 (by simp)
                have h43 : ac.tmps.getD 43 undef = .int .i64 X.n := hI 43 (by simp)
                have h49 : hs[0]? = some (ac.tmps.getD 49 undef) := hI 49 (by simp)
                obtain ⟨a, rfl⟩ := List.length_eq_one_iff.1 hlen
                obtain ⟨hT1, ha⟩ := hT
                have e49 : a = ac.tmps.getD 49 undef := by simpa using h49
                rw [e49] at ha
                show Brings Try.prog (fun vv w' => VarS p bb O m l X.n Y.n w3 [a, vv] w') _
                have HS88 := Lib.hid (setVar (HK3.out.bo.turned0 hT1) (n := X.n) (k := Y.n) (by unfold I64; omega) (by unfold I64; omega) HSE.out)
                simp only [execOp, Act.eval, h38, h43, ha]
                go_simp
                show Calls Try.prog 88 _ W _
                (with_reducible refine HS88.out.mono ?_)
                rintro e w' ⟨rfl, l2, hl2, A⟩
                exact ⟨_, rfl, rfl, l2, hl2, A.from0 hT1⟩
              case s16 =>
                refine fun hs hle => stepG_free [] [] (by kernel_rfl) rfl ?_
                intro ac W hT hI hO
                have hle : hs.length ≤ 2 := hle
                show Brings Try.prog (fun vv w' => Turned (fun _ => False) W w' ∧ vv = .bool true) _
                simp only [execOp, Act.eval]
                go_simp
                try exact ⟨Turned.refl _ _, rfl⟩
              case s17 =>
                refine fun hs hle => stepG_free [50] [] (by kernel_rfl) rfl ?_
                intro ac W hT hI hO
                have hle : hs.length ≤ 2 := hle
                have h50 : hs[1]? = some (ac.tmps.getD 50 undef) := hI 50 (by simp)
                show Brings Try.prog (fun vv w' => Turned (fun _ => False) W w' ∧ vv = .int .i64 0) _
                have e50 := VarS.val hs W hT h50
                simp only [execOp, Act.eval, e50]
                go_simp
                try exact ⟨Turned.refl _ _, rfl⟩
            case hQ =>
              intro hs5 vs5 w5 hlen hR hV
              have q6 : vs5 6 = .bool true := hV 6 (by simp)
              have q7 : vs5 7 = .int .i64 0 := hV 7 (by simp)
              simp only [List.foldl_cons, List.foldl_nil, List.setIfInBounds_toArray, List.set_cons_zero, List.set_cons_succ, q6, q7]
              obtain ⟨e1, e2, rfl⟩ := list2' hlen
              obtain ⟨_, l2, hl2, A5⟩ := hR
              have HA5 := Lib.hid A5
              have HL2 := Lib.hid hl2
              clear A5 hl2 hlen hV q6 q7
              go_wp2_with fail
              go_ret2
              rw [HE.out]
              refine ⟨v, rfl, rfl, ?_⟩
              rw [show (2000 - ((2000 - c : Nat) : Int)) = (c : Int) from by omega]
              obtain ⟨O', u1, u2, u3⟩ := HK3.out.after HA5.out
              exact UA.from HT3.out ⟨l2, O', HL2.out, u1, u2, u3.mono (fun _ _ e => .inr (.inr e))⟩
      · have by_ : (Y.kind == 0) = false := by simp [hyk]
        have HE := Lib.hid (HU.out.trans (oneU_left hxk hyk))
        have HTI := Lib.hid (tie183 (xv := X) HK3.out hc HYI.out OWY.out hyk vX.1 vX.2.1 fX)
        clear hxk hyk vX fX hok
        rw [LT.val_eq, LT.val_eq] at HTI
        obtain ⟨TU, hTU⟩ : ∃ z, z = Tm.tieU (bt l) (2000 - c) X.n Y.bare := ⟨_, rfl⟩
        rw [← hTU] at HTI HE
        clear hTU
        cases TU with
        | ok l' left' =>
          go_wp2_with (go_at_call 183; (with_reducible refine HTI.out.mono ?_); rintro e w4 ⟨rfl, h4⟩; have H4 := Lib.hid h4; clear h4)
          go_ret2
          rw [HE.out]
          exact ⟨v, rfl, rfl, H4.out.from HT3.out⟩
        | no q =>
          go_wp2_with (go_at_call 183; (with_reducible refine HTI.out.mono ?_); rintro e w4 ⟨rfl, h4⟩; have H4 := Lib.hid h4; clear h4)
          go_ret2
          rw [HE.out]
          exact ⟨v, rfl, rfl, H4.out.from HT3.out⟩
        | over =>
          go_wp2_with (go_at_call 183; (with_reducible refine HTI.out.mono ?_); rintro e w4 ⟨rfl, h4⟩; have H4 := Lib.hid h4; clear h4)
          go_ret2
          rw [HE.out]
          obtain ⟨c', h4⟩ := H4.out
          exact ⟨v, rfl, rfl, c', h4.from HT3.out⟩
    · have bx : (X.kind == 0) = false := by simp [hxk]
      by_cases hyk : Y.kind = 0
      · have vY := Tm.ownB_var OWY.out (by rw [Tm.bare_kind]; exact hyk)
        have fY := WDY.out.free (by rw [Tm.bare_kind]; exact hyk)
        rw [Tm.bare_n] at vY fY
        have by_ : (Y.kind == 0) = true := by simp [hyk]
        have HE := Lib.hid (HU.out.trans (oneU_right hxk hyk))
        have HTI := Lib.hid (tie183 (xv := Y) HK3.out hc HXI.out OWX.out hxk vY.1 vY.2.1 fY)
        clear hxk hyk vY fY hok
        rw [LT.val_eq, LT.val_eq] at HTI
        obtain ⟨TU, hTU⟩ : ∃ z, z = Tm.tieU (bt l) (2000 - c) Y.n X.bare := ⟨_, rfl⟩
        rw [← hTU] at HTI HE
        clear hTU
        cases TU with
        | ok l' left' =>
          go_wp2_with (go_at_call 183; (with_reducible refine HTI.out.mono ?_); rintro e w4 ⟨rfl, h4⟩; have H4 := Lib.hid h4; clear h4)
          go_ret2
          rw [HE.out]
          exact ⟨v, rfl, rfl, H4.out.from HT3.out⟩
        | no q =>
          go_wp2_with (go_at_call 183; (with_reducible refine HTI.out.mono ?_); rintro e w4 ⟨rfl, h4⟩; have H4 := Lib.hid h4; clear h4)
          go_ret2
          rw [HE.out]
          exact ⟨v, rfl, rfl, H4.out.from HT3.out⟩
        | over =>
          go_wp2_with (go_at_call 183; (with_reducible refine HTI.out.mono ?_); rintro e w4 ⟨rfl, h4⟩; have H4 := Lib.hid h4; clear h4)
          go_ret2
          rw [HE.out]
          obtain ⟨c', h4⟩ := H4.out
          exact ⟨v, rfl, rfl, c', h4.from HT3.out⟩
      · have by_ : (Y.kind == 0) = false := by simp [hyk]
        have HE := Lib.hid (HU.out.trans (oneU_heads hxk hyk))
        have HXK := Lib.hid hxk
        have HYK := Lib.hid hyk
        clear hxk hyk hok
        by_cases h1 : X.kind = Y.kind
        · have t1 : (X.kind != Y.kind) = false := by simp [h1]
          by_cases h2 : X.n = Y.n
          · have t2 : (X.n != Y.n) = false := by simp [h2]
            by_cases h3 : X.name = Y.name
            · have t3 : (X.name.toList != Y.name.toList) = false := by simp [h3]
              have t3' : (X.name.toList == Y.name.toList) = true := by simp [h3]
              by_cases h4 : X.args.length = Y.args.length
              · have t4 : ((X.args.length : Int) != (Y.args.length : Int)) = false := by simp [h4]
                have HE2 : Hid (U = .more (X.bare.args.zip Y.bare.args)) := by show _ = _; rw [HE.out, if_pos ⟨h1, h2, h3, h4⟩]
                have HL4 := Lib.hid h4
                clear h1 h2 h3 h4
                have hal : X.args.length ≤ 8 := by
                  by_cases ha : X.bare.args = []
                  · have := Tm.bare_arity X; rw [ha] at this; simp at this; omega
                  · have := (Tm.one_args (WDX.out.ones _ (by rw [Tm.flat_eq]; exact List.mem_cons_self ..)) ha).2.2
                    rw [Tm.bare_arity] at this; exact this
                go_wp2_with fail
                go_loopg [8] X.args.length (fun q i wr => OneL p bb K v st c O m l X Y w.heap.size w3 q i wr)
                case atStart => exact ⟨Nat.le_refl _, rfl, v, (by (rw [List.drop_eq_nil_of_le (by rw [List.length_zip]; omega), List.reverse_nil, List.append_nil]; exact HK3)), .inl rfl, HXB.out, HYB.out, ⟨HXI.out, HYI.out⟩, Turned.refl _ _⟩
                case round =>
                  obtain ⟨HJ, hi, v4, HK4, HO4, hb4, hb5, HI4, HT4⟩ := hrel
                  rcases gk with _ | q
                  · rw [show (((0 : Nat) : Int) - 1) = -1 from rfl] at hi
                    subst hi
                    go_wp2_with fail
                    go_ret2
                    rw [HE2.out]
                    refine ⟨rfl, v4, X.args.zip Y.args, by simpa using HK4.out, ?_, ?_, (HT3.out.mono (fun _ _ f => f.elim)).trans HT4.out⟩
                    · rw [Tm.bare_args, Tm.bare_args, Tm.bares_eq, Tm.bares_eq, List.zip_map]
                      rfl
                    · exact HO4.out.elim .inl (fun e => .inr (fun g hg => Nat.le_trans HT3.out.size (e g hg)))
                  · rw [show (((q + 1 : Nat) : Int) - 1) = (q : Int) from by omega] at hi
                    subst hi
                    have hm : q < X.args.length := by have := HJ.out; omega
                    obtain ⟨xq, hxq⟩ : ∃ y : LT, X.args[q]? = some y := ⟨_, List.getElem?_eq_getElem hm⟩
                    obtain ⟨yq, hyq⟩ : ∃ y : LT, Y.args[q]? = some y := ⟨_, List.getElem?_eq_getElem (by have := HL4.out; omega)⟩
                    obtain ⟨i0, hi0, hz0, hz1, hz2⟩ := info_parts info187
                    have hlen : (st ++ ((X.args.zip Y.args).drop (q + 1)).reverse).length ≤ 20100 := by
                      rw [List.length_append, List.length_reverse, List.length_drop, List.length_zip]; omega
                    obtain ⟨LL, hLL⟩ : ∃ z, z = st ++ ((X.args.zip Y.args).drop (q + 1)).reverse := ⟨_, rfl⟩
                    rw [← hLL] at HK4 hlen
                    have HLL := Lib.hid hLL
                    clear hLL
                    obtain ⟨b, o, hax, _, d0, d1, d2, d3⟩ := HI4.out.1.lies.cell hxq
                    obtain ⟨b2, o2, hay, _, e0, e1, e2, e3⟩ := HI4.out.2.lies.cell hyq
                    have HAX := Lib.hid hax
                    have HAY := Lib.hid hay
                    have HLY := Lib.hid HL4.out.symm
                    have hpl : ∀ k, p k → ¬ v4.ownBlock = some k := fun k hk e => (HK4.out.vO k e).2.1 hk
                    have HXW : Hid (∀ W, Turned (fun k => v4.ownBlock = some k) wr W → (W.cell? ⟨b, o + q * 4, none⟩ = some (.int .i64 xq.kind) ∧ W.cell? ⟨b, o + q * 4 + 1, none⟩ = some (.int .i64 xq.n) ∧ W.cell? ⟨b, o + q * 4 + 2, none⟩ = some (.string xq.name) ∧ W.cell? ⟨b, o + q * 4 + 3, none⟩ = some (.slice xq.at_.1 xq.args.length xq.at_.2)) ∧ (W.cell? ⟨b2, o2 + q * 4, none⟩ = some (.int .i64 yq.kind) ∧ W.cell? ⟨b2, o2 + q * 4 + 1, none⟩ = some (.int .i64 yq.n) ∧ W.cell? ⟨b2, o2 + q * 4 + 2, none⟩ = some (.string yq.name) ∧ W.cell? ⟨b2, o2 + q * 4 + 3, none⟩ = some (.slice yq.at_.1 yq.args.length yq.at_.2))) := fun W T => by
                      have hX := LT.In.turned T (fun k _ hk e => hpl k hk e) (fun _ _ hk => hk) X HI4.out.1
                      have hY := LT.In.turned T (fun k _ hk e => hpl k hk e) (fun _ _ hk => hk) Y HI4.out.2
                      obtain ⟨b', o', h1, _, z⟩ := hX.lies.cell hxq
                      obtain ⟨b2', o2', h2, _, z2⟩ := hY.lies.cell hyq
                      rw [hax] at h1
                      rw [hay] at h2
                      injection h1 with h1
                      injection h1 with h1 h1'
                      injection h2 with h2
                      injection h2 with h2 h2'
                      subst h1 h1' h2 h2'
                      exact ⟨z, z2⟩
                    have hvl : ∀ k, v4.ownBlock = some k → k ≠ w.heap.size ∧ k ≠ w.heap.size + 1 := fun k hk => by
                      have hs3 : w.heap.size + 2 ≤ w3.heap.size := by have := (Array.getElem?_eq_some_iff.1 HYB.out).1; omega
                      rcases HO4.out with e | e
                      · have := HUK.out.row.lt k (e ▸ hk); omega
                      · have := e k hk; omega
                    have HBW : Hid (∀ W, Turned (fun k => v4.ownBlock = some k) wr W → W.heap[w.heap.size]? = some (.cells #[.int .i64 X.kind, .int .i64 X.n, .string X.name, .slice X.at_.1 X.args.length X.at_.2] 27 (0, 0)) ∧ W.heap[w.heap.size + 1]? = some (.cells #[.int .i64 Y.kind, .int .i64 Y.n, .string Y.name, .slice Y.at_.1 Y.args.length Y.at_.2] 27 (0, 0))) := fun W T => ⟨(T.block _ (Array.getElem?_eq_some_iff.1 hb4).1 (fun e => (hvl _ e).1 rfl)).trans hb4, (T.block _ (Array.getElem?_eq_some_iff.1 hb5).1 (fun e => (hvl _ e).2 rfl)).trans hb5⟩
                    have HKB : Hid (∀ W, Turned (fun k => v4.ownBlock = some k) wr W → W.heap[K]? = some (.cells #[.pointer (some ⟨bb, 0, none⟩), v4, .int .i64 (c : Int)] 190 (0, 0))) := fun W T => (T.block _ (Array.getElem?_eq_some_iff.1 HK4.out.k).1 (fun e => (HK4.out.vO K e).2.2 rfl)).trans HK4.out.k
                    have HKW : Hid (∀ W, Turned (fun k => v4.ownBlock = some k) wr W → W.cell? ⟨K, 0, none⟩ = some (.pointer (some ⟨bb, 0, none⟩)) ∧ W.cell? ⟨K, 1, none⟩ = some v4 ∧ W.cell? ⟨K, 2, none⟩ = some (.int .i64 c) ∧ W.frozen? ⟨K, 1, none⟩ = false ∧ W.frozen? ⟨K, 2, none⟩ = false) := fun W T =>
                      ⟨by (rw [cell_of_row W K 0 _ 190 (0, 0) (HKB.out W T)]; rfl), by (rw [cell_of_row W K 1 _ 190 (0, 0) (HKB.out W T)]; rfl), by (rw [cell_of_row W K 2 _ 190 (0, 0) (HKB.out W T)]; rfl), frozen_of_row W K 1 _ 190 (HKB.out W T), frozen_of_row W K 2 _ 190 (HKB.out W T)⟩
                    have hxl := HI4.out.1.len
                    have hylen := HI4.out.2.len
                    have hxm : X.at_.2 ≤ 9223372036854775807 := by have := hxl.2.1; unfold maxLen at this; exact this
                    have hym : Y.at_.2 ≤ 9223372036854775807 := by have := hylen.2.1; unfold maxLen at this; exact this
                    have HXQ := Lib.hid hxq
                    have HYQ := Lib.hid hyq
                    have HB4 := Lib.hid (And.intro hb4 hb5)
                    clear d0 d1 d2 d3 e0 e1 e2 e3 hax hay hb4 hb5 hxq hyq hvl hpl hxl hylen c0 c1 c2 c3 f0 f1 f2 f3 g0 g1 g2 g3 k0 k1 k2 kf1 kf2
                    try clear d0 d1 d2 d3
                    go_wp2_with fail
                    refine wp_region_hsW [108, 109, 110, 111, 112, 113, 114, 115, 116, 117, 118, 119, 120, 121, 122, 123, 124, 125, 126, 127] [16, 17, 20] [2, 1, 1, 1, 1, 0, 0, 0, 0, 0, 0, 0, 0, 0, 0, 0, 1, 2, 2, 2, 3] [124, 125, 100020] (fun dd vv => (match dd with | 108 => vv = .pointer (some ⟨K, 0, none⟩) | 109 => vv = .pointer (some ⟨K, 0, none⟩) | 110 => vv = .pointer (some ⟨K, 0, none⟩) | 111 => vv = .pointer (some ⟨K, 1, none⟩) | 112 => vv = v4 | 113 => vv = .pointer (some ⟨w.heap.size, 3, none⟩) | 114 => vv = .slice (some ⟨b, o, none⟩) X.args.length X.at_.2 | 115 => vv = .int .i64 q | 116 => vv = .pointer (some ⟨b, o + q * 4, none⟩) | 117 => vv = .agg #[.int .i64 xq.kind, .int .i64 xq.n, .string xq.name, .slice xq.at_.1 xq.args.length xq.at_.2] | 118 => vv = .pointer (some ⟨w.heap.size + 1, 3, none⟩) | 119 => vv = .slice (some ⟨b2, o2, none⟩) Y.args.length Y.at_.2 | 120 => vv = .int .i64 q | 121 => vv = .pointer (some ⟨b2, o2 + q * 4, none⟩) | 122 => vv = .agg #[.int .i64 yq.kind, .int .i64 yq.n, .string yq.name, .slice yq.at_.1 yq.args.length yq.at_.2] | 123 => vv = .agg #[.int .i64 xq.kind, .int .i64 xq.n, .string xq.name, .slice xq.at_.1 xq.args.length xq.at_.2, .int .i64 yq.kind, .int .i64 yq.n, .string yq.name, .slice yq.at_.1 yq.args.length yq.at_.2] | 126 => vv = .pointer (some ⟨K, 0, none⟩) | 127 => vv = .pointer (some ⟨K, 1, none⟩) | _ => True : Prop)) (PsS bb K v4 LL.length (LL.flatMap PT.cells) (c : Int) xq yq wr) (by kernel_rfl) rfl (by kernel_rfl) (by kernel_rfl) (by kernel_rfl) (by kernel_rfl) (fun w h => h) (fun hs w w' h T => PsS.turned0 hs w w' h T) ?hs ?hQ
                    case hs =>
                      refine ⟨?s0, ?s1, ?s2, ?s3, ?s4, ?s5, ?s6, ?s7, ?s8, ?s9, ?s10, ?s11, ?s12, ?s13, ?s14, ?s15, ?s16, ?s17, ?s18, ?s19, ?s20, trivial⟩
                      case s0 =>
                        refine fun hs hle => stepG_free [] [0] (by kernel_rfl) rfl ?_
                        intro ac W hT hI hO
                        have hle : hs.length ≤ 2 := hle
                        have h0 : ac.tmps.getD 0 undef = .pointer (some ⟨K, 0, none⟩) := hO 0 (by simp)
                        show Brings Try.prog (fun vv w' => Turned (fun _ => False) W w' ∧ vv = .pointer (some ⟨K, 0, none⟩)) _
                        simp only [execOp, Act.eval, h0]
                        go_simp
                        try exact ⟨Turned.refl _ _, rfl⟩
                      case s1 =>
                        refine fun hs hle => stepG_free [] [0] (by kernel_rfl) rfl ?_
                        intro ac W hT hI hO
                        have hle : hs.length ≤ 1 := hle
                        have h0 : ac.tmps.getD 0 undef = .pointer (some ⟨K, 0, none⟩) := hO 0 (by simp)
                        show Brings Try.prog (fun vv w' => Turned (fun _ => False) W w' ∧ vv = .pointer (some ⟨K, 0, none⟩)) _
                        simp only [execOp, Act.eval, h0]
                        go_simp
                        try exact ⟨Turned.refl _ _, rfl⟩
                      case s2 =>
                        refine fun hs hle => stepG_free [109] [] (by kernel_rfl) rfl ?_
                        intro ac W hT hI hO
                        have hle : hs.length ≤ 1 := hle
                        have h109 : ac.tmps.getD 109 undef = .pointer (some ⟨K, 0, none⟩) := hI 109 (by simp)
                        show Brings Try.prog (fun vv w' => Turned (fun _ => False) W w' ∧ vv = .pointer (some ⟨K, 0, none⟩)) _
                        obtain ⟨k0, k1, k2, kf1, kf2⟩ := HKW.out W (PsS.turned hs W (by omega) hT)
                        simp only [execOp, Act.eval, h109]
                        go_simp
                        try exact ⟨Turned.refl _ _, rfl⟩
                      case s3 =>
                        refine fun hs hle => stepG_free [110] [] (by kernel_rfl) rfl ?_
                        intro ac W hT hI hO
                        have hle : hs.length ≤ 1 := hle
                        have h110 : ac.tmps.getD 110 undef = .pointer (some ⟨K, 0, none⟩) := hI 110 (by simp)
                        show Brings Try.prog (fun vv w' => Turned (fun _ => False) W w' ∧ vv = .pointer (some ⟨K, 1, none⟩)) _
                        simp only [execOp, Act.eval, h110]
                        go_simp
                        try exact ⟨Turned.refl _ _, rfl⟩
                      case s4 =>
                        refine fun hs hle => stepG_free [111] [] (by kernel_rfl) rfl ?_
                        intro ac W hT hI hO
                        have hle : hs.length ≤ 1 := hle
                        have h111 : ac.tmps.getD 111 undef = .pointer (some ⟨K, 1, none⟩) := hI 111 (by simp)
                        show Brings Try.prog (fun vv w' => Turned (fun _ => False) W w' ∧ vv = v4) _
                        obtain ⟨k0, k1, k2, kf1, kf2⟩ := HKW.out W (PsS.turned hs W (by omega) hT)
                        simp only [execOp, Act.eval, h111]
                        go_simp
                        try exact ⟨Turned.refl _ _, rfl⟩
                      case s5 =>
                        refine fun hs hle => stepG_free [] [4] (by kernel_rfl) rfl ?_
                        intro ac W hT hI hO
                        have hle : hs.length ≤ 0 := hle
                        have h4 : ac.tmps.getD 4 undef = .pointer (some ⟨w.heap.size, 0, none⟩) := hO 4 (by simp)
                        show Brings Try.prog (fun vv w' => Turned (fun _ => False) W w' ∧ vv = .pointer (some ⟨w.heap.size, 3, none⟩)) _
                        simp only [execOp, Act.eval, h4]
                        go_simp
                        try exact ⟨Turned.refl _ _, rfl⟩
                      case s6 =>
                        refine fun hs hle => stepG_free [113] [] (by kernel_rfl) rfl ?_
                        intro ac W hT hI hO
                        have hle : hs.length ≤ 0 := hle
                        have h113 : ac.tmps.getD 113 undef = .pointer (some ⟨w.heap.size, 3, none⟩) := hI 113 (by simp)
                        show Brings Try.prog (fun vv w' => Turned (fun _ => False) W w' ∧ vv = .slice (some ⟨b, o, none⟩) X.args.length X.at_.2) _
                        obtain ⟨c0, c1, c2, c3, _⟩ := cells4 ((HBW.out W (PsS.turned hs W (by omega) hT)).1)
                        rw [HAX.out] at c3
                        simp only [execOp, Act.eval, h113]
                        go_simp
                        try exact ⟨Turned.refl _ _, rfl⟩
                      case s7 =>
                        refine fun hs hle => stepG_free [] [8] (by kernel_rfl) rfl ?_
                        intro ac W hT hI hO
                        have hle : hs.length ≤ 0 := hle
                        have h8 : ac.tmps.getD 8 undef = .int .i64 q := hO 8 (by simp)
                        show Brings Try.prog (fun vv w' => Turned (fun _ => False) W w' ∧ vv = .int .i64 q) _
                        simp only [execOp, Act.eval, h8]
                        go_simp
                        try exact ⟨Turned.refl _ _, rfl⟩
                      case s8 =>
                        refine fun hs hle => stepG_free [114, 115] [] (by kernel_rfl) rfl ?_
                        intro ac W hT hI hO
                        have hle : hs.length ≤ 0 := hle
                        have h114 : ac.tmps.getD 114 undef = .slice (some ⟨b, o, none⟩) X.args.length X.at_.2 := hI 114 (by simp)
                        have h115 : ac.tmps.getD 115 undef = .int .i64 q := hI 115 (by simp)
                        show Brings Try.prog (fun vv w' => Turned (fun _ => False) W w' ∧ vv = .pointer (some ⟨b, o + q * 4, none⟩)) _
                        have hyl := HLY.out
                        simp only [execOp, Act.eval, h114, h115]
                        go_simp
                        try rw [if_pos (by omega)]
                        try exact ⟨Turned.refl _ _, rfl⟩
                      case s9 =>
                        refine fun hs hle => stepG_free [116] [] (by kernel_rfl) rfl ?_
                        intro ac W hT hI hO
                        have hle : hs.length ≤ 0 := hle
                        have h116 : ac.tmps.getD 116 undef = .pointer (some ⟨b, o + q * 4, none⟩) := hI 116 (by simp)
                        show Brings Try.prog (fun vv w' => Turned (fun _ => False) W w' ∧ vv = .agg #[.int .i64 xq.kind, .int .i64 xq.n, .string xq.name, .slice xq.at_.1 xq.args.length xq.at_.2]) _
                        obtain ⟨x0, x1, x2, x3⟩ := (HXW.out W (PsS.turned hs W (by omega) hT)).1
                        simp only [execOp, Act.eval, h116]
                        go_simp
                        try exact ⟨Turned.refl _ _, rfl⟩
                      case s10 =>
                        refine fun hs hle => stepG_free [] [5] (by kernel_rfl) rfl ?_
                        intro ac W hT hI hO
                        have hle : hs.length ≤ 0 := hle
                        have h5 : ac.tmps.getD 5 undef = .pointer (some ⟨w.heap.size + 1, 0, none⟩) := hO 5 (by simp)
                        show Brings Try.prog (fun vv w' => Turned (fun _ => False) W w' ∧ vv = .pointer (some ⟨w.heap.size + 1, 3, none⟩)) _
                        simp only [execOp, Act.eval, h5]
                        go_simp
                        try exact ⟨Turned.refl _ _, rfl⟩
                      case s11 =>
                        refine fun hs hle => stepG_free [118] [] (by kernel_rfl) rfl ?_
                        intro ac W hT hI hO
                        have hle : hs.length ≤ 0 := hle
                        have h118 : ac.tmps.getD 118 undef = .pointer (some ⟨w.heap.size + 1, 3, none⟩) := hI 118 (by simp)
                        show Brings Try.prog (fun vv w' => Turned (fun _ => False) W w' ∧ vv = .slice (some ⟨b2, o2, none⟩) Y.args.length Y.at_.2) _
                        obtain ⟨c0, c1, c2, c3, _⟩ := cells4 ((HBW.out W (PsS.turned hs W (by omega) hT)).2)
                        rw [HAY.out] at c3
                        simp only [execOp, Act.eval, h118]
                        go_simp
                        try exact ⟨Turned.refl _ _, rfl⟩
                      case s12 =>
                        refine fun hs hle => stepG_free [] [8] (by kernel_rfl) rfl ?_
                        intro ac W hT hI hO
                        have hle : hs.length ≤ 0 := hle
                        have h8 : ac.tmps.getD 8 undef = .int .i64 q := hO 8 (by simp)
                        show Brings Try.prog (fun vv w' => Turned (fun _ => False) W w' ∧ vv = .int .i64 q) _
                        simp only [execOp, Act.eval, h8]
                        go_simp
                        try exact ⟨Turned.refl _ _, rfl⟩
                      case s13 =>
                        refine fun hs hle => stepG_free [119, 120] [] (by kernel_rfl) rfl ?_
                        intro ac W hT hI hO
                        have hle : hs.length ≤ 0 := hle
                        have h119 : ac.tmps.getD 119 undef = .slice (some ⟨b2, o2, none⟩) Y.args.length Y.at_.2 := hI 119 (by simp)
                        have h120 : ac.tmps.getD 120 undef = .int .i64 q := hI 120 (by simp)
                        show Brings Try.prog (fun vv w' => Turned (fun _ => False) W w' ∧ vv = .pointer (some ⟨b2, o2 + q * 4, none⟩)) _
                        have hyl := HLY.out
                        simp only [execOp, Act.eval, h119, h120]
                        go_simp
                        try rw [if_pos (by omega)]
                        try exact ⟨Turned.refl _ _, rfl⟩
                      case s14 =>
                        refine fun hs hle => stepG_free [121] [] (by kernel_rfl) rfl ?_
                        intro ac W hT hI hO
                        have hle : hs.length ≤ 0 := hle
                        have h121 : ac.tmps.getD 121 undef = .pointer (some ⟨b2, o2 + q * 4, none⟩) := hI 121 (by simp)
                        show Brings Try.prog (fun vv w' => Turned (fun _ => False) W w' ∧ vv = .agg #[.int .i64 yq.kind, .int .i64 yq.n, .string yq.name, .slice yq.at_.1 yq.args.length yq.at_.2]) _
                        obtain ⟨x0, x1, x2, x3⟩ := (HXW.out W (PsS.turned hs W (by omega) hT)).2
                        simp only [execOp, Act.eval, h121]
                        go_simp
                        try exact ⟨Turned.refl _ _, rfl⟩
                      case s15 =>
                        refine fun hs hle => stepG_free [117, 122] [] (by kernel_rfl) rfl ?_
                        intro ac W hT hI hO
                        have hle : hs.length ≤ 0 := hle
                        have h117 : ac.tmps.getD 117 undef = .agg #[.int .i64 xq.kind, .int .i64 xq.n, .string xq.name, .slice xq.at_.1 xq.args.length xq.at_.2] := hI 117 (by simp)
                        have h122 : ac.tmps.getD 122 undef = .agg #[.int .i64 yq.kind, .int .i64 yq.n, .string yq.name, .slice yq.at_.1 yq.args.length yq.at_.2] := hI 122 (by simp)
                        show Brings Try.prog (fun vv w' => Turned (fun _ => False) W w' ∧ vv = .agg #[.int .i64 xq.kind, .int .i64 xq.n, .string xq.name, .slice xq.at_.1 xq.args.length xq.at_.2, .int .i64 yq.kind, .int .i64 yq.n, .string yq.name, .slice yq.at_.1 yq.args.length yq.at_.2]) _
                        refine brings_build187 117 122 rfl h117 h122 ?_
                        exact ⟨Turned.refl _ _, rfl⟩
                      case s16 =>
                        refine fun hs hlen => stepG_free [123] [] (by kernel_rfl) rfl ?_
                        intro ac W hT hI hO
                        have h123 : ac.tmps.getD 123 undef = .agg #[.int .i64 xq.kind, .int .i64 xq.n, .string xq.name, .slice xq.at_.1 xq.args.length xq.at_.2, .int .i64 yq.kind, .int .i64 yq.n, .string yq.name, .slice yq.at_.1 yq.args.length yq.at_.2] := hI 123 (by simp)
                        obtain rfl : hs = [] := List.eq_nil_of_length_eq_zero hlen
                        replace hT : Turned (fun _ => False) wr W := hT
                        show Brings Try.prog (fun vv w' => PsS bb K v4 LL.length (LL.flatMap PT.cells) (c : Int) xq yq wr [vv] w') _
                        refine brings_slice188 123 rfl h123 ?_
                        exact ⟨hT.alloc _, _, rfl, heap_alloc_new W _⟩
                      case s17 =>
                        refine fun hs hlen => stepG_free [112, 124] [] (by kernel_rfl) rfl ?_
                        intro ac W hT hI hO
                        have h112 : ac.tmps.getD 112 undef = v4 := hI 112 (by simp)
                        have h124 : hs[0]? = some (ac.tmps.getD 124 undef) := hI 124 (by simp)
                        obtain ⟨a, rfl⟩ := List.length_eq_one_iff.1 hlen
                        obtain ⟨hT1, g0, ha, hg0⟩ := hT
                        have e124 : a = ac.tmps.getD 124 undef := by simpa using h124
                        rw [e124] at ha
                        show Brings Try.prog (fun vv w' => PsS bb K v4 LL.length (LL.flatMap PT.cells) (c : Int) xq yq wr [a, vv] w') _
                        have hnb := news_block (cs := PT.cells (xq, yq)) (by unfold PT.cells; rw [LT.cells_eq, LT.cells_eq]; exact hg0)
                        refine brings_append_any (.tmp 112) (.tmp 124) 188 rfl 187 i0 _ 8 112 Try.underlying188 hi0 hz0 hz1 hz2 rfl (by decide) v4 _ _ h112 (HK4.out.row.turned0 hT1) (some ⟨g0, 0, none⟩) 1 1 (PT.cells (xq, yq)) ha (fun e => by cases e) (PT.cells_length _) (fun ad e j u hu => by injection e with e; subst e; exact hnb j u hu) (PT.cells_one _) (by unfold maxLen; omega) (by omega) ?_
                        intro v5 w5 hr5 T5 ho5
                        exact ⟨hr5, ho5.elim .inl (fun e => .inr (fun g hg => by rw [hg] at e; injection e with e; have := hT1.size; omega)), (hT1.mono (fun _ _ f => f.elim)).trans T5⟩
                      case s18 =>
                        refine fun hs hle => stepG_free [108] [] (by kernel_rfl) rfl ?_
                        intro ac W hT hI hO
                        have hle : hs.length ≤ 2 := hle
                        have h108 : ac.tmps.getD 108 undef = .pointer (some ⟨K, 0, none⟩) := hI 108 (by simp)
                        show Brings Try.prog (fun vv w' => Turned (fun _ => False) W w' ∧ vv = .pointer (some ⟨K, 0, none⟩)) _
                        obtain ⟨k0, k1, k2, kf1, kf2⟩ := HKW.out W (PsS.turned hs W (by omega) hT)
                        simp only [execOp, Act.eval, h108]
                        go_simp
                        try exact ⟨Turned.refl _ _, rfl⟩
                      case s19 =>
                        refine fun hs hle => stepG_free [126] [] (by kernel_rfl) rfl ?_
                        intro ac W hT hI hO
                        have hle : hs.length ≤ 2 := hle
                        have h126 : ac.tmps.getD 126 undef = .pointer (some ⟨K, 0, none⟩) := hI 126 (by simp)
                        show Brings Try.prog (fun vv w' => Turned (fun _ => False) W w' ∧ vv = .pointer (some ⟨K, 1, none⟩)) _
                        simp only [execOp, Act.eval, h126]
                        go_simp
                        try exact ⟨Turned.refl _ _, rfl⟩
                      case s20 =>
                        refine fun hs hlen => stepG_free [127, 125] [] (by kernel_rfl) rfl ?_
                        intro ac W hT hI hO
                        have h127 : ac.tmps.getD 127 undef = .pointer (some ⟨K, 1, none⟩) := hI 127 (by simp)
                        have h125 : hs[1]? = some (ac.tmps.getD 125 undef) := hI 125 (by simp)
                        obtain ⟨a, b9, rfl⟩ := list2' hlen
                        obtain ⟨hr5, ho5, T5⟩ := hT
                        have e125 : b9 = ac.tmps.getD 125 undef := by simpa using h125
                        obtain ⟨k0, k1, k2, kf1, kf2⟩ := HKW.out W T5
                        obtain ⟨ra, rc, e5⟩ := hr5.shape
                        have hsk := heap_setCell_same W K 1 _ 190 b9 (HKB.out W T5)
                        have HSK := Lib.hid hsk
                        have T6 : Turned (fun k => k = K ∨ v4.ownBlock = some k) W (W.setCell ⟨K, 1, none⟩ b9) := (Turned.refl _ W).setCell (p := ⟨K, 1, none⟩) (.inr (.inl rfl)) b9
                        have hne : b9.ownBlock ≠ some K := fun e => by
                          rcases ho5 with h | h
                          · exact (HK4.out.vO K (h ▸ e)).2.2 rfl
                          · have := h K e; have := (Array.getElem?_eq_some_iff.1 HK4.out.k).1; omega
                        have HR6 := Lib.hid (hr5.setCell (p := ⟨K, 1, none⟩) hne b9)
                        have HT6 := Lib.hid ((T5.mono (fun _ _ e => Or.inr e)).trans T6)
                        have HO6 := Lib.hid ho5
                        have h125' : ac.tmps.getD 125 undef = b9 := e125.symm
                        show Brings Try.prog (fun vv w' => PsS bb K v4 LL.length (LL.flatMap PT.cells) (c : Int) xq yq wr [a, b9, vv] w') _
                        clear hsk T6 hne hr5 T5 ho5 e125 h125
                        subst e5
                        simp only [execOp, Act.eval, h127, h125']
                        go_simp
                        exact ⟨HR6.out, HO6.out, HT6.out, by simpa using HSK.out⟩
                    case hQ =>
                      intro hs15 vs15 w5 hlen15 hR hV
                      simp only [List.foldl_cons, List.foldl_nil, List.setIfInBounds_toArray, List.set_cons_zero, List.set_cons_succ]
                      obtain ⟨z1, a5, z3, rfl⟩ := list3' hlen15
                      obtain ⟨r1, r2, r3, r4⟩ := hR
                      have HPK := Lib.hid (HK4.out.push (X := xq) (Y := yq) ⟨(LT.ins_iff _).1 HI4.out.1.args xq (List.mem_of_getElem? HXQ.out), Tm.ownB_arg OWX.out (by rw [Tm.bare_kind]; exact HXK.out) (by rw [Tm.bare_args, Tm.bares_eq]; exact List.mem_map_of_mem (List.mem_of_getElem? HXQ.out))⟩ ⟨(LT.ins_iff _).1 HI4.out.2.args yq (List.mem_of_getElem? HYQ.out), Tm.ownB_arg OWY.out (by rw [Tm.bare_kind]; exact HYK.out) (by rw [Tm.bare_args, Tm.bares_eq]; exact List.mem_map_of_mem (List.mem_of_getElem? HYQ.out))⟩ r1 r2 r3 r4)
                      have HR2 := Lib.hid r2
                      have HR3 := Lib.hid r3
                      clear r1 r2 r3 r4 hlen15 hV
                      go_wp2_with fail
                      go_roundg q
                      case measure => omega
                      case rel =>
                        have hz : (X.args.zip Y.args).drop q = (xq, yq) :: (X.args.zip Y.args).drop (q + 1) := by
                          have hzl : q < (X.args.zip Y.args).length := by rw [List.length_zip]; have := HL4.out; omega
                          rw [List.drop_eq_getElem_cons hzl]
                          congr 1
                          rw [List.getElem_zip]
                          have h1 := HXQ.out
                          have h2 := HYQ.out
                          rw [List.getElem?_eq_getElem hm] at h1
                          rw [List.getElem?_eq_getElem (by have := HL4.out; omega)] at h2
                          injection h1 with h1
                          injection h2 with h2
                          rw [h1, h2]
                        have hown : ∀ k, k < w3.heap.size → (k = K ∨ v4.ownBlock = some k) → ownU K v O k := fun k hk e => by
                          rcases e with e | e
                          · exact .inl e
                          · rcases HO4.out with h | h
                            · exact .inr (.inl (h ▸ e))
                            · have := h k e; omega
                        have hps : ∀ k, k = w.heap.size ∨ k = w.heap.size + 1 → ¬ (k = K ∨ v4.ownBlock = some k) := fun k hk e => by
                          have hs3 : w.heap.size + 2 ≤ w3.heap.size := by have := (Array.getElem?_eq_some_iff.1 HYB.out).1; omega
                          rcases e with e | e
                          · omega
                          · rcases HO4.out with h | h
                            · have := HUK.out.row.lt k (h ▸ e); omega
                            · have := h k e; omega
                        have hpt : ∀ t : LT, t.In p wr → t.In p w5 := fun t ht => LT.In.turned HR3.out (fun k _ hk e => by
                          rcases e with e | e
                          · exact HK4.out.kO.2 (e ▸ hk)
                          · exact (HK4.out.vO k e).2.1 hk) (fun _ _ hk => hk) t ht
                        refine ⟨by have := HJ.out; show _ ≤ _; omega, rfl, a5, ?_, ?_, ?_, ?_, ⟨hpt _ HI4.out.1, hpt _ HI4.out.2⟩, HT4.out.step HR3.out hown⟩
                        · show UK _ _ _ _ _ _ _ _ _ _
                          rw [hz, List.reverse_cons, ← List.append_assoc, ← HLL.out]
                          exact HPK.out
                        · show _ ∨ _
                          rcases HR2.out with e | e
                          · rcases HO4.out with h | h
                            · exact .inl (e.trans h)
                            · exact .inr (fun g hg => h g (e ▸ hg))
                          · exact .inr (fun g hg => Nat.le_trans HT4.out.size (e g hg))
                        · exact (HR3.out.block _ (Array.getElem?_eq_some_iff.1 HB4.out.1).1 (hps _ (.inl rfl))).trans HB4.out.1
                        · exact (HR3.out.block _ (Array.getElem?_eq_some_iff.1 HB4.out.2).1 (hps _ (.inr rfl))).trans HB4.out.2
              · have t4 : ((X.args.length : Int) != (Y.args.length : Int)) = true := by simp; omega
                have HE2 : Hid (U = .done (.no (2000 - c))) := by show _ = _; rw [HE.out, if_neg (fun e => h4 e.2.2.2)]
                clear h1 h2 h3 h4
                go_wp2_with fail
                go_ret2
                rw [HE2.out]
                refine ⟨v, rfl, rfl, ?_⟩
                rw [show (2000 - ((2000 - c : Nat) : Int)) = (c : Int) from by omega]
                exact UA.same HK3.out (HT3.out.mono (fun _ _ f => f.elim))
            · have t3 : (X.name.toList != Y.name.toList) = true := by rw [bne, str_neq h3]; rfl
              have t3' : (X.name.toList == Y.name.toList) = false := str_neq h3
              have HE2 : Hid (U = .done (.no (2000 - c))) := by show _ = _; rw [HE.out, if_neg (fun e => h3 e.2.2.1)]
              clear h1 h2 h3
              go_wp2_with fail
              go_ret2
              rw [HE2.out]
              refine ⟨v, rfl, rfl, ?_⟩
              rw [show (2000 - ((2000 - c : Nat) : Int)) = (c : Int) from by omega]
              exact UA.same HK3.out (HT3.out.mono (fun _ _ f => f.elim))
          · have t2 : (X.n != Y.n) = true := by simp [h2]
            have HE2 : Hid (U = .done (.no (2000 - c))) := by show _ = _; rw [HE.out, if_neg (fun e => h2 e.2.1)]
            clear h1 h2
            go_wp2_with fail
            go_ret2
            rw [HE2.out]
            refine ⟨v, rfl, rfl, ?_⟩
            rw [show (2000 - ((2000 - c : Nat) : Int)) = (c : Int) from by omega]
            exact UA.same HK3.out (HT3.out.mono (fun _ _ f => f.elim))
        · have t1 : (X.kind != Y.kind) = true := by simp [h1]
          have HE2 : Hid (U = .done (.no (2000 - c))) := by show _ = _; rw [HE.out, if_neg (fun e => h1 e.1)]
          clear h1
          go_wp2_with fail
          go_ret2
          rw [HE2.out]
          refine ⟨v, rfl, rfl, ?_⟩
          rw [show (2000 - ((2000 - c : Nat) : Int)) = (c : Int) from by omega]
          exact UA.same HK3.out (HT3.out.mono (fun _ _ f => f.elim))
end
end Go.Proofs.Ytoihjobdfjajfaa

/- unify's maker: all. -/
namespace Go.Proofs.Ytoihjobdfjajfaa
open Go.RowKit Go.Maps
set_option linter.unusedVariables false
set_option linter.unusedSimpArgs false
def pairsT (st : List PT) : List (Tm Unit × Tm Unit) := st.reverse.map fun q => (q.1.bare, q.2.bare)
theorem pairsT_snoc (ss : List PT) (q : PT) : pairsT (ss ++ [q]) = (q.1.bare, q.2.bare) :: pairsT ss := by unfold pairsT; rw [List.reverse_append]; rfl
theorem pairsT_args (ss qs : List PT) : pairsT (ss ++ qs.reverse) = qs.map (fun q => (q.1.bare, q.2.bare)) ++ pairsT ss := by
  unfold pairsT; rw [List.reverse_append, List.reverse_reverse, List.map_append]
theorem PT.flat_at {l : List PT} {i : Nat} {q : PT} (h : l[i]? = some q) (j : Nat) (hj : j < 8) : (l.flatMap PT.cells)[i * 8 + j]? = (PT.cells q)[j]? := by
  induction l generalizing i with
  | nil => simp at h
  | cons y l ih =>
    rw [List.flatMap_cons]
    cases i with
    | zero =>
      simp at h; subst h
      rw [List.getElem?_append_left (by rw [PT.cells_length]; omega), Nat.zero_mul, Nat.zero_add]
    | succ i =>
      simp at h
      rw [List.getElem?_append_right (by rw [PT.cells_length]; omega), PT.cells_length]
      have : (i + 1) * 8 + j - 8 = i * 8 + j := by omega
      rw [this]
      exact ih h
theorem PT.cells_eq (q : PT) : PT.cells q = [.int .i64 q.1.kind, .int .i64 q.1.n, .string q.1.name, .slice q.1.at_.1 q.1.args.length q.1.at_.2, .int .i64 q.2.kind, .int .i64 q.2.n, .string q.2.name, .slice q.2.at_.1 q.2.args.length q.2.at_.2] := by unfold PT.cells; rw [LT.cells_eq, LT.cells_eq]; rfl
theorem turned8 (W : World) (B : Nat) (a b c d e f g h : Value) : Turned (fun k => k = B) W ((((((((W.setCell ⟨B, 0, none⟩ a).setCell ⟨B, 1, none⟩ b).setCell ⟨B, 2, none⟩ c).setCell ⟨B, 3, none⟩ d).setCell ⟨B, 4, none⟩ e).setCell ⟨B, 5, none⟩ f).setCell ⟨B, 6, none⟩ g).setCell ⟨B, 7, none⟩ h) :=
  ((((((((Turned.refl (fun k => k = B) W).setCell (p := ⟨B, 0, none⟩) (.inr rfl) _).setCell (p := ⟨B, 1, none⟩) (.inr rfl) _).setCell (p := ⟨B, 2, none⟩) (.inr rfl) _).setCell (p := ⟨B, 3, none⟩) (.inr rfl) _).setCell (p := ⟨B, 4, none⟩) (.inr rfl) _).setCell (p := ⟨B, 5, none⟩) (.inr rfl) _).setCell (p := ⟨B, 6, none⟩) (.inr rfl) _).setCell (p := ⟨B, 7, none⟩) (.inr rfl) _
theorem set8 {W : World} {B : Nat} {T : TypeId} {a b c d e f g h a' b' c' d' e' f' g' h' : Value} (hb : W.heap[B]? = some (.cells #[a, b, c, d, e, f, g, h] T (0, 0))) :
    ((((((((W.setCell ⟨B, 0, none⟩ a').setCell ⟨B, 1, none⟩ b').setCell ⟨B, 2, none⟩ c').setCell ⟨B, 3, none⟩ d').setCell ⟨B, 4, none⟩ e').setCell ⟨B, 5, none⟩ f').setCell ⟨B, 6, none⟩ g').setCell ⟨B, 7, none⟩ h').heap[B]? = some (.cells #[a', b', c', d', e', f', g', h'] T (0, 0)) := by
  have h0 := heap_setCell_same W B 0 _ T a' hb
  have h1 := heap_setCell_same _ B 1 _ T b' h0
  have h2 := heap_setCell_same _ B 2 _ T c' h1
  have h3 := heap_setCell_same _ B 3 _ T d' h2
  have h4 := heap_setCell_same _ B 4 _ T e' h3
  have h5 := heap_setCell_same _ B 5 _ T f' h4
  have h6 := heap_setCell_same _ B 6 _ T g' h5
  have h7 := heap_setCell_same _ B 7 _ T h' h6
  simpa using h7
theorem cells8 {W : World} {B : Nat} {T : TypeId} {a b c d e f g h : Value} (hb : W.heap[B]? = some (.cells #[a, b, c, d, e, f, g, h] T (0, 0))) :
    (W.cell? ⟨B, 0, none⟩ = some a ∧ W.cell? ⟨B, 1, none⟩ = some b ∧ W.cell? ⟨B, 2, none⟩ = some c ∧ W.cell? ⟨B, 3, none⟩ = some d ∧ W.cell? ⟨B, 4, none⟩ = some e ∧ W.cell? ⟨B, 5, none⟩ = some f ∧ W.cell? ⟨B, 6, none⟩ = some g ∧ W.cell? ⟨B, 7, none⟩ = some h) ∧
    W.frozen? ⟨B, 0, none⟩ = false ∧ W.frozen? ⟨B, 1, none⟩ = false ∧ W.frozen? ⟨B, 2, none⟩ = false ∧ W.frozen? ⟨B, 3, none⟩ = false ∧ W.frozen? ⟨B, 4, none⟩ = false ∧ W.frozen? ⟨B, 5, none⟩ = false ∧ W.frozen? ⟨B, 6, none⟩ = false ∧ W.frozen? ⟨B, 7, none⟩ = false := by
  refine ⟨⟨?_, ?_, ?_, ?_, ?_, ?_, ?_, ?_⟩, ?_, ?_, ?_, ?_, ?_, ?_, ?_, ?_⟩
  · rw [cell_of_row W B 0 _ T (0, 0) hb]; rfl
  · rw [cell_of_row W B 1 _ T (0, 0) hb]; rfl
  · rw [cell_of_row W B 2 _ T (0, 0) hb]; rfl
  · rw [cell_of_row W B 3 _ T (0, 0) hb]; rfl
  · rw [cell_of_row W B 4 _ T (0, 0) hb]; rfl
  · rw [cell_of_row W B 5 _ T (0, 0) hb]; rfl
  · rw [cell_of_row W B 6 _ T (0, 0) hb]; rfl
  · rw [cell_of_row W B 7 _ T (0, 0) hb]; rfl
  all_goals exact frozen_of_row W B _ _ T hb
/-- The last pair is taken off. -/
theorem UK.last {p O : Nat → Prop} {bb K m g n cap : Nat} {ss : List PT} {q : PT} {c : Int} {l : TL} {w : World} (h : UK p bb K (.slice (some ⟨g, 0, none⟩) n cap) (ss ++ [q]) c O m l w) :
    n = ss.length + 1 ∧ ss.length + 1 ≤ cap ∧ cap ≤ maxLen ∧ (w.cell? ⟨g, ss.length * 8, none⟩ = some (.int .i64 q.1.kind) ∧ w.cell? ⟨g, ss.length * 8 + 1, none⟩ = some (.int .i64 q.1.n) ∧ w.cell? ⟨g, ss.length * 8 + 2, none⟩ = some (.string q.1.name) ∧ w.cell? ⟨g, ss.length * 8 + 3, none⟩ = some (.slice q.1.at_.1 q.1.args.length q.1.at_.2)) ∧
    w.cell? ⟨g, ss.length * 8 + 4, none⟩ = some (.int .i64 q.2.kind) ∧ w.cell? ⟨g, ss.length * 8 + 5, none⟩ = some (.int .i64 q.2.n) ∧ w.cell? ⟨g, ss.length * 8 + 6, none⟩ = some (.string q.2.name) ∧ w.cell? ⟨g, ss.length * 8 + 7, none⟩ = some (.slice q.2.at_.1 q.2.args.length q.2.at_.2) := by
  have hr := h.row
  have hn : n = ss.length + 1 := by
    rcases hr.2 with ⟨e, _⟩ | ⟨g', c', cur, e, _⟩
    · cases e
    · injection e with _ e _; simp at e; exact e
  subst hn
  have hcap : ss.length + 1 ≤ cap ∧ cap ≤ maxLen := by
    rcases hr.2 with ⟨e, _⟩ | ⟨g', c', cur, e, _, h1, h2, _⟩
    · cases e
    · injection e with _ _ e; subst e; simp at h1; omega
  have hr' : Row w 187 8 (.slice (some ⟨g, 0, none⟩) (ss.length + 1) cap) (ss.length + 1) ((ss ++ [q]).flatMap PT.cells) := by simpa using hr
  have hi : (ss ++ [q])[ss.length]? = some q := by simp
  refine ⟨rfl, hcap.1, hcap.2, ⟨hr'.cells rfl _ _ ?_, hr'.cells rfl _ _ ?_, hr'.cells rfl _ _ ?_, hr'.cells rfl _ _ ?_⟩, hr'.cells rfl _ _ ?_, hr'.cells rfl _ _ ?_, hr'.cells rfl _ _ ?_, hr'.cells rfl _ _ ?_⟩
  · have := PT.flat_at hi 0 (by omega); rw [Nat.add_zero] at this; rw [this, PT.cells_eq]; rfl
  all_goals (rw [PT.flat_at hi _ (by omega), PT.cells_eq]; rfl)
theorem UK.popc {p O : Nat → Prop} {bb K m g n cap : Nat} {ss : List PT} {q : PT} {c : Int} {l : TL} {w : World} (h : UK p bb K (.slice (some ⟨g, 0, none⟩) n cap) (ss ++ [q]) c O m l w) (c' : Int) :
    UK p bb K (.slice (some ⟨g, 0, none⟩) ss.length cap) ss c' O m l ((w.setCell ⟨K, 1, none⟩ (.slice (some ⟨g, 0, none⟩) ss.length cap)).setCell ⟨K, 2, none⟩ (.int .i64 c')) ∧ Turned (fun k => k = K) w ((w.setCell ⟨K, 1, none⟩ (.slice (some ⟨g, 0, none⟩) ss.length cap)).setCell ⟨K, 2, none⟩ (.int .i64 c')) := by
  obtain ⟨hn, h1, h2, _⟩ := h.last
  subst hn
  have T : Turned (fun k => k = K) w (w.setCell ⟨K, 1, none⟩ (.slice (some ⟨g, 0, none⟩) ss.length cap)) := (Turned.refl (fun k => k = K) w).setCell (p := ⟨K, 1, none⟩) (.inr rfl) _
  have hp : ∀ q : LT, q.In p w → q.In p (w.setCell ⟨K, 1, none⟩ (.slice (some ⟨g, 0, none⟩) ss.length cap)) := fun q hq => LT.In.turned T (fun k _ hk e => h.kO.2 (e ▸ hk)) (fun _ _ hk => hk) q hq
  have hr' : Row w 187 8 (.slice (some ⟨g, 0, none⟩) (ss.length + 1) cap) (ss.length + 1) ((ss ++ [q]).flatMap PT.cells) := by simpa using h.row
  have ht := hr'.take (m := ss.length) (c := cap) (by omega) (by omega) (Nat.le_refl _)
  rw [List.flatMap_append, List.take_left' (by rw [PT.flat_length])] at ht
  have h1 : UK p bb K (.slice (some ⟨g, 0, none⟩) ss.length cap) ss c O m l (w.setCell ⟨K, 1, none⟩ (.slice (some ⟨g, 0, none⟩) ss.length cap)) := by
    refine ⟨h.bo.turned T (fun k hk e => ⟨fun c => h.kO.1 (e ▸ c), fun c => h.kO.2 (e ▸ c)⟩), ?_, ht.turned T (fun k hk e => (h.vO k (by simpa [Value.ownBlock] using hk)).2.2 e), fun q' hq => ?_, h.kO, fun g' hg => h.vO g' (by simpa [Value.ownBlock] using hg)⟩
    · have := heap_setCell_same w K 1 _ 190 (.slice (some ⟨g, 0, none⟩) ss.length cap) h.k
      simpa using this
    · have hm := h.mem q' (List.mem_append_left _ hq)
      exact ⟨⟨hp _ hm.1.1, hm.1.2⟩, hp _ hm.2.1, hm.2.2⟩
  obtain ⟨h3, T3⟩ := h1.cost c'
  exact ⟨h3, T.trans T3⟩
/-- The pair's own box: how far. -/
def BxS (q : PT) (wr : World) : List Value → World → Prop
  | [], W => Turned (fun _ => False) wr W
  | [b], W => Turned (fun _ => False) wr W ∧ ∃ B a0 a1 a2 a3 a4 a5 a6 a7, b = .pointer (some ⟨B, 0, none⟩) ∧ wr.heap.size ≤ B ∧ W.heap[B]? = some (.cells #[a0, a1, a2, a3, a4, a5, a6, a7] 187 (0, 0))
  | [b, _], W => Turned (fun _ => False) wr W ∧ ∃ B, b = .pointer (some ⟨B, 0, none⟩) ∧ wr.heap.size ≤ B ∧ W.heap[B]? = some (.cells #[.int .i64 q.1.kind, .int .i64 q.1.n, .string q.1.name, .slice q.1.at_.1 q.1.args.length q.1.at_.2, .int .i64 q.2.kind, .int .i64 q.2.n, .string q.2.name, .slice q.2.at_.1 q.2.args.length q.2.at_.2] 187 (0, 0))
  | _, _ => False
theorem BxS.turned0 {q : PT} {wr : World} : ∀ (hs : List Value) (w w' : World), BxS q wr hs w → Turned (fun _ => False) w w' → BxS q wr hs w'
  | [], _, _, h, T => Turned.trans h T
  | [_], _, _, ⟨h1, B, a0, a1, a2, a3, a4, a5, a6, a7, h2, h3, h4⟩, T => ⟨h1.trans T, B, a0, a1, a2, a3, a4, a5, a6, a7, h2, h3, (T.block _ (Array.getElem?_eq_some_iff.1 h4).1 (fun f => f)).trans h4⟩
  | [_, _], _, _, ⟨h1, B, h2, h3, h4⟩, T => ⟨h1.trans T, B, h2, h3, (T.block _ (Array.getElem?_eq_some_iff.1 h4).1 (fun f => f)).trans h4⟩
  | _ :: _ :: _ :: _, _, _, h, _ => h.elim
theorem BxS.turned {q : PT} {wr : World} : ∀ (hs : List Value) (W : World), BxS q wr hs W → Turned (fun _ => False) wr W
  | [], _, h => h
  | [_], _, h => h.1
  | [_, _], _, h => h.1
  | _ :: _ :: _ :: _, _, h => h.elim
/-- Where all stands, as seen from its start. -/
structure AllI (p : Nat → Prop) (bb K : Nat) (v0 : Value) (O0 : Nat → Prop) (m : Nat) (l0 : TL) (U : Tm.UR) (w0 : World) (v : Value) (st : List PT) (c : Nat) (O : Nat → Prop) (l : TL) (wr : World) : Prop where
  uk : UK p bb K v st c O m l wr
  c2 : c ≤ 2000
  len : st.length ≤ 1 + 8 * c
  pre : ∃ a, bt l = a ++ bt l0
  same : Tm.unify (bt l) (2000 - c) (pairsT st) = U
  own : ∀ k, ownU K v O k → k < w0.heap.size → ownU K v0 O0 k
  ownO : ∀ k, O k → k < w0.heap.size → O0 k
  turned : Turned (ownU K v0 O0) w0 wr
/-- How all ends. -/
def AllQ (p : Nat → Prop) (bb K : Nat) (v0 : Value) (O0 : Nat → Prop) (m : Nat) (l0 : TL) (w0 : World) : Tm.UR → Ending → World → Prop
  | .ok l' left', e, w' => e = .returned (.tuple #[.bool true, .int .i64 0]) ∧ ∃ v st O l, bt l = l' ∧ UK p bb K v st (2000 - (left' : Int)) O m l w' ∧ (∀ k, O k → k < w0.heap.size → O0 k) ∧ Turned (ownU K v0 O0) w0 w'
  | .no q, e, w' => e = .returned (.tuple #[.bool false, .int .i64 0]) ∧ ∃ v st O l, (∃ a, bt l = a ++ bt l0) ∧ UK p bb K v st (2000 - (q : Int)) O m l w' ∧ (∀ k, O k → k < w0.heap.size → O0 k) ∧ Turned (ownU K v0 O0) w0 w'
  | .over, e, w' => e = .returned (.tuple #[.bool false, .int .i64 12]) ∧ ∃ v st c O l, (∃ a, bt l = a ++ bt l0) ∧ UK p bb K v st c O m l w' ∧ (∀ k, O k → k < w0.heap.size → O0 k) ∧ Turned (ownU K v0 O0) w0 w'
section
variable {p O0 O : Nat → Prop} {bb K m : Nat} {v0 v : Value} {st : List PT} {c : Nat} {l0 l : TL} {U : Tm.UR} {w0 wr w5 w6 w' : World}
/-- What a call behind some steps has turned, as seen from the start. -/
theorem AllI.far {O' : Nat → Prop} {v' : Value} (h : AllI p bb K v0 O0 m l0 U w0 v st c O l wr) (T5 : Turned (fun _ => False) wr w5) (T6 : Turned (fun k => k = K) w5 w6) (T : Turned (ownU K v' O) w6 w') (hv : ∀ k, v'.ownBlock = some k → v.ownBlock = some k) (hO : ∀ k, O' k → k < w6.heap.size → O k) :
    (∀ k, O' k → k < w0.heap.size → O0 k) ∧ Turned (ownU K v0 O0) w0 w' ∧ w0.heap.size ≤ w6.heap.size := by
  have hs : w0.heap.size ≤ w6.heap.size := by have := h.turned.size; have := T5.size; have := T6.size; omega
  refine ⟨fun k hk hl => h.ownO k (hO k hk (Nat.lt_of_lt_of_le hl hs)) hl, ?_, hs⟩
  have R5 := h.turned.trans (T5.mono (fun _ _ f => f.elim))
  have R6 := R5.step T6 (fun i hi e => .inl e)
  exact R6.step T (fun i hi e => h.own i (e.elim .inl (fun e => e.elim (fun e => .inr (.inl (hv i e))) (fun e => .inr (.inr e)))) hi)
set_option maxRecDepth 100000 in
set_option maxHeartbeats 12800000 in
theorem all153 {w : World} (h : UK p bb K v st c O m l w) (hc : c ≤ 2000) (hl : st.length ≤ 1 + 8 * c) :
    Calls Try.prog 153 #[.pointer (some ⟨K, 0, none⟩)] w (AllQ p bb K v O m l w (Tm.unify (bt l) (2000 - c) (pairsT st))) := by
  obtain ⟨U, hU⟩ : ∃ z, z = Tm.unify (bt l) (2000 - c) (pairsT st) := ⟨_, rfl⟩
  rw [← hU]
  have hinit : Hid (AllI p bb K v O m l U w v st c O l w) := ⟨h, hc, hl, ⟨[], rfl⟩, hU.symm, fun _ hk _ => hk, fun _ hk _ => hk, Turned.refl _ _⟩
  clear h hl hU
  go_enter Try.func153, Try.ntmps153
  go_wp2_with fail
  go_loopg [] (2000 - c) (fun k wr => ∃ v' st' c' O' l', Hid (c' + k = 2000) ∧ Hid (AllI p bb K v O m l U w v' st' c' O' l' wr))
  case atStart => exact ⟨v, st, c, O, l, show _ = _ by omega, hinit⟩
  case round =>
    obtain ⟨v1, st1, c1, O1, l1, HG, HI⟩ := hrel
    obtain ⟨k0, k1, k2, kf1, kf2⟩ := HI.out.uk.kcells
    rcases List.eq_nil_or_concat st1 with rfl | ⟨ss, q, rfl⟩
    · obtain ⟨a, cap, rfl⟩ := HI.out.uk.row.shape
      have hu : U = .ok (bt l1) (2000 - c1) := HI.out.same.symm
      have HE := Lib.hid hu
      clear hu
      go_wp2_with fail
      go_ret2
      rw [HE.out]
      have huk := HI.out.uk
      rw [show (c1 : Int) = 2000 - ((2000 - c1 : Nat) : Int) from by have := HI.out.c2; omega] at huk
      exact ⟨rfl, .slice a ([] : List PT).length cap, [], O1, l1, rfl, huk, HI.out.ownO, HI.out.turned⟩
    · rw [List.concat_eq_append] at HI
      obtain ⟨g, cap, rfl⟩ := HI.out.uk.row.shape_pos (by simp)
      obtain ⟨hn1, hc1, hc2, _⟩ := HI.out.uk.last
      have hcm : cap ≤ 9223372036854775807 := by unfold maxLen at hc2; exact hc2
      have hss : ss.length ≤ 16001 := by have h1 := HI.out.len; have h2 := HI.out.c2; rw [List.length_append, List.length_singleton] at h1; omega
      rw [List.length_append, List.length_singleton] at k1
      have HKW : Hid (∀ W, Turned (fun _ => False) wr W → W.cell? ⟨K, 0, none⟩ = some (.pointer (some ⟨bb, 0, none⟩)) ∧ W.cell? ⟨K, 1, none⟩ = some (.slice (some ⟨g, 0, none⟩) (ss.length + 1) cap) ∧ W.cell? ⟨K, 2, none⟩ = some (.int .i64 c1) ∧ W.frozen? ⟨K, 1, none⟩ = false ∧ W.frozen? ⟨K, 2, none⟩ = false) := fun W T => by
        have := (HI.out.uk.turned0 T).kcells
        rw [List.length_append, List.length_singleton] at this
        exact this
      have HLW := Lib.hid (fun W (T : Turned (fun _ => False) wr W) => (HI.out.uk.turned0 T).last.2.2.2)
      clear hn1
      go_wp2_with fail
      refine wp_region_hsW [13, 14, 15, 16, 17, 18, 19, 20, 21, 22, 23, 24, 4] [12, 13] [1, 1, 1, 1, 1, 1, 1, 1, 1, 1, 1, 1, 1, 2] [4, 100013] (fun dd vv => (match dd with | 13 => vv = .pointer (some ⟨K, 0, none⟩) | 14 => vv = .pointer (some ⟨K, 0, none⟩) | 15 => vv = .pointer (some ⟨K, 1, none⟩) | 16 => vv = .slice (some ⟨g, 0, none⟩) (ss.length + 1) cap | 17 => vv = .pointer (some ⟨K, 0, none⟩) | 18 => vv = .pointer (some ⟨K, 0, none⟩) | 19 => vv = .pointer (some ⟨K, 1, none⟩) | 20 => vv = .slice (some ⟨g, 0, none⟩) (ss.length + 1) cap | 21 => vv = .int .i64 ((ss.length : Int) + 1) | 22 => vv = .int .i64 ss.length | 23 => vv = .pointer (some ⟨g, ss.length * 8, none⟩) | 24 => vv = .agg #[.int .i64 q.1.kind, .int .i64 q.1.n, .string q.1.name, .slice q.1.at_.1 q.1.args.length q.1.at_.2, .int .i64 q.2.kind, .int .i64 q.2.n, .string q.2.name, .slice q.2.at_.1 q.2.args.length q.2.at_.2] | _ => True : Prop)) (BxS q wr) (by kernel_rfl) rfl (by kernel_rfl) (by kernel_rfl) (by kernel_rfl) (by kernel_rfl) (fun w h => h) (fun hs w w' h T => BxS.turned0 hs w w' h T) ?hs ?hQ
      case hs =>
        refine ⟨?s0, ?s1, ?s2, ?s3, ?s4, ?s5, ?s6, ?s7, ?s8, ?s9, ?s10, ?s11, ?s12, ?s13, trivial⟩
        case s0 =>
          refine fun hs hle => stepG_free [] [0] (by kernel_rfl) rfl ?_
          intro ac W hT hI hO
          have hle : hs.length ≤ 1 := hle
          have h0 : ac.tmps.getD 0 undef = .pointer (some ⟨K, 0, none⟩) := hO 0 (by simp)
          show Brings Try.prog (fun vv w' => Turned (fun _ => False) W w' ∧ vv = .pointer (some ⟨K, 0, none⟩)) _
          simp only [execOp, Act.eval, h0]
          go_simp
          try exact ⟨Turned.refl _ _, rfl⟩
        case s1 =>
          refine fun hs hle => stepG_free [13] [] (by kernel_rfl) rfl ?_
          intro ac W hT hI hO
          have hle : hs.length ≤ 1 := hle
          have h13 : ac.tmps.getD 13 undef = .pointer (some ⟨K, 0, none⟩) := hI 13 (by simp)
          show Brings Try.prog (fun vv w' => Turned (fun _ => False) W w' ∧ vv = .pointer (some ⟨K, 0, none⟩)) _
          obtain ⟨k0, k1, k2, kf1, kf2⟩ := HKW.out W (BxS.turned hs W hT)
          simp only [execOp, Act.eval, h13]
          go_simp
          try exact ⟨Turned.refl _ _, rfl⟩
        case s2 =>
          refine fun hs hle => stepG_free [14] [] (by kernel_rfl) rfl ?_
          intro ac W hT hI hO
          have hle : hs.length ≤ 1 := hle
          have h14 : ac.tmps.getD 14 undef = .pointer (some ⟨K, 0, none⟩) := hI 14 (by simp)
          show Brings Try.prog (fun vv w' => Turned (fun _ => False) W w' ∧ vv = .pointer (some ⟨K, 1, none⟩)) _
          simp only [execOp, Act.eval, h14]
          go_simp
          try exact ⟨Turned.refl _ _, rfl⟩
        case s3 =>
          refine fun hs hle => stepG_free [15] [] (by kernel_rfl) rfl ?_
          intro ac W hT hI hO
          have hle : hs.length ≤ 1 := hle
          have h15 : ac.tmps.getD 15 undef = .pointer (some ⟨K, 1, none⟩) := hI 15 (by simp)
          show Brings Try.prog (fun vv w' => Turned (fun _ => False) W w' ∧ vv = .slice (some ⟨g, 0, none⟩) (ss.length + 1) cap) _
          obtain ⟨k0, k1, k2, kf1, kf2⟩ := HKW.out W (BxS.turned hs W hT)
          simp only [execOp, Act.eval, h15]
          go_simp
          try exact ⟨Turned.refl _ _, rfl⟩
        case s4 =>
          refine fun hs hle => stepG_free [] [0] (by kernel_rfl) rfl ?_
          intro ac W hT hI hO
          have hle : hs.length ≤ 1 := hle
          have h0 : ac.tmps.getD 0 undef = .pointer (some ⟨K, 0, none⟩) := hO 0 (by simp)
          show Brings Try.prog (fun vv w' => Turned (fun _ => False) W w' ∧ vv = .pointer (some ⟨K, 0, none⟩)) _
          simp only [execOp, Act.eval, h0]
          go_simp
          try exact ⟨Turned.refl _ _, rfl⟩
        case s5 =>
          refine fun hs hle => stepG_free [17] [] (by kernel_rfl) rfl ?_
          intro ac W hT hI hO
          have hle : hs.length ≤ 1 := hle
          have h17 : ac.tmps.getD 17 undef = .pointer (some ⟨K, 0, none⟩) := hI 17 (by simp)
          show Brings Try.prog (fun vv w' => Turned (fun _ => False) W w' ∧ vv = .pointer (some ⟨K, 0, none⟩)) _
          obtain ⟨k0, k1, k2, kf1, kf2⟩ := HKW.out W (BxS.turned hs W hT)
          simp only [execOp, Act.eval, h17]
          go_simp
          try exact ⟨Turned.refl _ _, rfl⟩
        case s6 =>
          refine fun hs hle => stepG_free [18] [] (by kernel_rfl) rfl ?_
          intro ac W hT hI hO
          have hle : hs.length ≤ 1 := hle
          have h18 : ac.tmps.getD 18 undef = .pointer (some ⟨K, 0, none⟩) := hI 18 (by simp)
          show Brings Try.prog (fun vv w' => Turned (fun _ => False) W w' ∧ vv = .pointer (some ⟨K, 1, none⟩)) _
          simp only [execOp, Act.eval, h18]
          go_simp
          try exact ⟨Turned.refl _ _, rfl⟩
        case s7 =>
          refine fun hs hle => stepG_free [19] [] (by kernel_rfl) rfl ?_
          intro ac W hT hI hO
          have hle : hs.length ≤ 1 := hle
          have h19 : ac.tmps.getD 19 undef = .pointer (some ⟨K, 1, none⟩) := hI 19 (by simp)
          show Brings Try.prog (fun vv w' => Turned (fun _ => False) W w' ∧ vv = .slice (some ⟨g, 0, none⟩) (ss.length + 1) cap) _
          obtain ⟨k0, k1, k2, kf1, kf2⟩ := HKW.out W (BxS.turned hs W hT)
          simp only [execOp, Act.eval, h19]
          go_simp
          try exact ⟨Turned.refl _ _, rfl⟩
        case s8 =>
          refine fun hs hle => stepG_free [20] [] (by kernel_rfl) rfl ?_
          intro ac W hT hI hO
          have hle : hs.length ≤ 1 := hle
          have h20 : ac.tmps.getD 20 undef = .slice (some ⟨g, 0, none⟩) (ss.length + 1) cap := hI 20 (by simp)
          show Brings Try.prog (fun vv w' => Turned (fun _ => False) W w' ∧ vv = .int .i64 ((ss.length : Int) + 1)) _
          simp only [execOp, Act.eval, h20]
          go_simp
          try exact ⟨Turned.refl _ _, rfl⟩
        case s9 =>
          refine fun hs hle => stepG_free [21] [] (by kernel_rfl) rfl ?_
          intro ac W hT hI hO
          have hle : hs.length ≤ 1 := hle
          have h21 : ac.tmps.getD 21 undef = .int .i64 ((ss.length : Int) + 1) := hI 21 (by simp)
          show Brings Try.prog (fun vv w' => Turned (fun _ => False) W w' ∧ vv = .int .i64 ss.length) _
          simp only [execOp, Act.eval, h21]
          go_simp
          try rw [wrapI (by omega) (by omega)]
          try exact ⟨Turned.refl _ _, rfl⟩
        case s10 =>
          refine fun hs hle => stepG_free [16, 22] [] (by kernel_rfl) rfl ?_
          intro ac W hT hI hO
          have hle : hs.length ≤ 1 := hle
          have h16 : ac.tmps.getD 16 undef = .slice (some ⟨g, 0, none⟩) (ss.length + 1) cap := hI 16 (by simp)
          have h22 : ac.tmps.getD 22 undef = .int .i64 ss.length := hI 22 (by simp)
          show Brings Try.prog (fun vv w' => Turned (fun _ => False) W w' ∧ vv = .pointer (some ⟨g, ss.length * 8, none⟩)) _
          simp only [execOp, Act.eval, h16, h22]
          go_simp
          try rw [if_pos (by omega)]
          try exact ⟨Turned.refl _ _, rfl⟩
        case s11 =>
          refine fun hs hle => stepG_free [23] [] (by kernel_rfl) rfl ?_
          intro ac W hT hI hO
          have hle : hs.length ≤ 1 := hle
          have h23 : ac.tmps.getD 23 undef = .pointer (some ⟨g, ss.length * 8, none⟩) := hI 23 (by simp)
          show Brings Try.prog (fun vv w' => Turned (fun _ => False) W w' ∧ vv = .agg #[.int .i64 q.1.kind, .int .i64 q.1.n, .string q.1.name, .slice q.1.at_.1 q.1.args.length q.1.at_.2, .int .i64 q.2.kind, .int .i64 q.2.n, .string q.2.name, .slice q.2.at_.1 q.2.args.length q.2.at_.2]) _
          obtain ⟨⟨x0, x1, x2, x3⟩, x4, x5, x6, x7⟩ := HLW.out W (BxS.turned hs W hT)
          simp only [execOp, Act.eval, h23]
          go_simp
          try exact ⟨Turned.refl _ _, rfl⟩
        case s12 =>
          refine fun hs hlen => stepG_free [] [] (by kernel_rfl) rfl ?_
          intro ac W hT hI hO
          obtain rfl : hs = [] := List.eq_nil_of_length_eq_zero hlen
          replace hT : Turned (fun _ => False) wr W := hT
          show Brings Try.prog (fun vv w' => BxS q wr [vv] w') _
          simp only [execOp, Act.eval]
          go_simp
          exact ⟨hT.alloc _, _, _, _, _, _, _, _, _, _, rfl, hT.size, heap_alloc_new W _⟩
        case s13 =>
          refine fun hs hlen => stepG_free [4, 24] [] (by kernel_rfl) rfl ?_
          intro ac W hT hI hO
          have h4 : hs[0]? = some (ac.tmps.getD 4 undef) := hI 4 (by simp)
          have h24 : ac.tmps.getD 24 undef = .agg #[.int .i64 q.1.kind, .int .i64 q.1.n, .string q.1.name, .slice q.1.at_.1 q.1.args.length q.1.at_.2, .int .i64 q.2.kind, .int .i64 q.2.n, .string q.2.name, .slice q.2.at_.1 q.2.args.length q.2.at_.2] := hI 24 (by simp)
          obtain ⟨a, rfl⟩ := List.length_eq_one_iff.1 hlen
          obtain ⟨hT1, B, a0, a1, a2, a3, a4, a5, a6, a7, ha, hB, hb⟩ := hT
          have e4 : a = ac.tmps.getD 4 undef := by simpa using h4
          rw [e4] at ha
          obtain ⟨⟨p0, p1, p2, p3, p4, p5, p6, p7⟩, f0, f1, f2, f3, f4, f5, f6, f7⟩ := cells8 hb
          have HST := Lib.hid (set8 (a' := .int .i64 q.1.kind) (b' := .int .i64 q.1.n) (c' := .string q.1.name) (d' := .slice q.1.at_.1 q.1.args.length q.1.at_.2) (e' := .int .i64 q.2.kind) (f' := .int .i64 q.2.n) (g' := .string q.2.name) (h' := .slice q.2.at_.1 q.2.args.length q.2.at_.2) hb)
          have HT8 := Lib.hid (hT1.step (turned8 W B (.int .i64 q.1.kind) (.int .i64 q.1.n) (.string q.1.name) (.slice q.1.at_.1 q.1.args.length q.1.at_.2) (.int .i64 q.2.kind) (.int .i64 q.2.n) (.string q.2.name) (.slice q.2.at_.1 q.2.args.length q.2.at_.2)) (fun i hi e => by omega))
          have HBB : Hid (wr.heap.size ≤ B) := hB
          show Brings Try.prog (fun vv w' => BxS q wr [a, vv] w') _
          have HEA := Lib.hid (e4.trans ha)
          clear hb hT1 hB
          simp only [execOp, Act.eval, ha, h24]
          go_simp
          exact ⟨HT8.out, B, by first | rfl | exact HEA.out, HBB.out, HST.out⟩
      case hQ =>
        intro hs2 vs2 w5 hlen2 hR hV
        obtain ⟨b1, b2, rfl⟩ := list2' hlen2
        obtain ⟨T5, B, rfl, hB, hb5⟩ := hR
        have q4 : some (Value.pointer (some ⟨B, 0, none⟩)) = some (vs2 4) := hV 4 (by simp)
        have q4' : vs2 4 = .pointer (some ⟨B, 0, none⟩) := (Option.some.inj q4).symm
        simp only [List.foldl_cons, List.foldl_nil, List.setIfInBounds_toArray, List.set_cons_zero, List.set_cons_succ, q4']
        clear q4 q4' hV hlen2
        have HB5 := Lib.hid hb5
        have HBN : Hid (wr.heap.size ≤ B) := hB
        have hpc := (HI.out.uk.turned0 T5).popc ((c1 : Int) + 1)
        have HPC := Lib.hid (And.intro (hpc.1.turned0 (Turned.refl _ _).drew) hpc.2.drew)
        have HT5 := Lib.hid T5
        have hkl := (Array.getElem?_eq_some_iff.1 HI.out.uk.k).1
        have hKB : K ≠ B := by have := HBN.out; omega
        have hBK : B ≠ K := by have := HBN.out; omega
        obtain ⟨k0, k1, k2, kf1, kf2⟩ := HKW.out w5 T5
        obtain ⟨⟨p0, p1, p2, p3, p4, p5, p6, p7⟩, _⟩ := cells8 hb5
        have hc2k := HI.out.c2
        have hcc : ss.length ≤ cap := by omega
        have hwr : IntKind.i64.wrap (ss.length : Int) = (ss.length : Int) := wrapI (by omega) (by omega)
        clear T5 hB hb5 hpc
        go_wp2_with fail
        refine region_tail 14 (by kernel_rfl) (by kernel_rfl) ?_
        simp only [List.take_succ_cons, List.take_zero, List.drop_succ_cons, List.drop_zero]
        repeat still_step
        refine wpStill_nil ?_
        by_cases hover : c1 = 2000
        · have hu : U = .over := by
            have := HI.out.same
            rw [hover, pairsT_snoc, show 2000 - 2000 = 0 from rfl, Tm.unify_zero] at this
            exact this.symm
          have HE := Lib.hid hu
          have d1 : decide (2000 < (c1 : Int) + 1) = true := decide_eq_true (by omega)
          clear hu hover
          go_wp2_with fail
          go_ret2
          rw [HE.out]
          obtain ⟨r1, r2, _⟩ := HI.out.far HT5.out HPC.out.2 (Turned.refl (ownU K (.slice (some ⟨g, 0, none⟩) (ss ++ [q]).length cap) O1) _) (fun k hk => hk) (O' := O1) (fun k hk _ => hk)
          exact ⟨rfl, _, ss, _, O1, l1, HI.out.pre, HPC.out.1, r1, r2⟩
        · have d1 : decide (2000 < (c1 : Int) + 1) = false := decide_eq_false (by omega)
          obtain ⟨hx, hy⟩ := HI.out.uk.mem q (by simp)
          have T6 := HPC.out.2
          have hin : ∀ t : LT, t.In p wr → t.In p ((w5.setCell ⟨K, 1, none⟩ (.slice (some ⟨g, 0, none⟩) ss.length cap)).setCell ⟨K, 2, none⟩ (.int .i64 ((c1 : Int) + 1))).drew := fun t ht => LT.In.turned T6 (fun k _ hk e => HI.out.uk.kO.2 (e ▸ hk)) (fun _ _ hk => hk) _ (ht.turned0 HT5.out)
          have hone := one173 (c := c1 + 1) (by rw [show (((c1 + 1 : Nat) : Int)) = (c1 : Int) + 1 from by omega]; exact HPC.out.1) (by omega) (by omega) (hin _ hx.1) hx.2 (hin _ hy.1) hy.2
          rw [LT.val_eq, LT.val_eq] at hone
          have hun := HI.out.same
          rw [pairsT_snoc, show 2000 - c1 = (2000 - (c1 + 1)) + 1 from by omega] at hun
          obtain ⟨S, hS⟩ : ∃ z, z = Tm.oneU (bt l1) (2000 - (c1 + 1)) (Tm.walkT (bt l1) q.1.bare) (Tm.walkT (bt l1) q.2.bare) := ⟨_, rfl⟩
          rw [← hS] at hone
          have HON := Lib.hid hone
          have HUN := Lib.hid hun
          have HS := Lib.hid hS
          clear hone hun hS hx hy hin T6
          cases S with
          | more ps =>
            have hu := (Tm.unify_more (r := pairsT ss) HS.out.symm).symm.trans HUN.out
            have HE := Lib.hid hu
            clear hu
            go_wp2_with (go_at_call 173; (with_reducible refine HON.out.mono ?_); rintro e w7 ⟨rfl, v7, qs, u7, hq7, ho7, T7⟩; have HU7 := Lib.hid u7; have HQ7 := Lib.hid hq7; have HO7 := Lib.hid ho7; have HT7 := Lib.hid T7; clear u7 hq7 ho7 T7)
            go_roundg (2000 - (c1 + 1))
            case measure => have := HG.out; omega
            case rel =>
              obtain ⟨r1, r2, r3⟩ := HI.out.far HT5.out HPC.out.2 HT7.out (fun k hk => by simpa [Value.ownBlock] using hk) (O' := O1) (fun k hk _ => hk)
              refine ⟨v7, ss ++ qs.reverse, c1 + 1, O1, l1, show _ = _ by omega, HU7.out, by omega, ?_, HI.out.pre, ?_, ?_, r1, r2⟩
              · have hql : qs.length ≤ 8 := by
                  have h1 := congrArg List.length HQ7.out
                  rw [List.length_map] at h1
                  have h2 := Tm.oneU_more_len HS.out.symm (Tm.walkT_own HI.out.uk.bo.ok _ _ (Nat.le_refl _) (HI.out.uk.mem q (by simp)).1.2)
                  omega
                have := HI.out.len
                rw [List.length_append, List.length_singleton] at this
                rw [List.length_append, List.length_reverse]
                omega
              · rw [pairsT_args, HQ7.out]; exact HE.out
              · intro k hk hl
                rcases hk with e | e | e
                · exact .inl e
                · rcases HO7.out with h | h
                  · exact HI.out.own k (.inr (.inl (by rw [h] at e; simpa [Value.ownBlock] using e))) hl
                  · have := h k e; omega
                · exact HI.out.own k (.inr (.inr e)) hl
          | done r =>
          cases r with
          | ok l' left' =>
            have hu := (Tm.unify_ok (r := pairsT ss) HS.out.symm).symm.trans HUN.out
            have HE := Lib.hid hu
            have hlf := Tm.oneU_left HS.out.symm
            have HLF := Lib.hid hlf
            clear hu hlf
            go_wp2_with (go_at_call 173; (with_reducible refine HON.out.mono ?_); rintro e w7 ⟨v7, rfl, rfl, l7, O7, hl7, u7, ho7, T7⟩; have HU7 := Lib.hid u7; have HL7 := Lib.hid hl7; have HO7 := Lib.hid ho7; have HT7 := Lib.hid T7; clear u7 hl7 ho7 T7)
            go_roundg left'
            case measure => have := HG.out; have := HLF.out; omega
            case rel =>
              obtain ⟨r1, r2, r3⟩ := HI.out.far HT5.out HPC.out.2 HT7.out (fun k hk => by simpa [Value.ownBlock] using hk) HO7.out
              have hlf := HLF.out
              refine ⟨.slice (some ⟨g, 0, none⟩) ss.length cap, ss, 2000 - left', O7, l7, show _ = _ by omega, ?_, by omega, ?_, ?_, ?_, ?_, r1, r2⟩
              · rw [show (((2000 - left' : Nat) : Int)) = 2000 - (left' : Int) from by omega]; exact HU7.out
              · have := HI.out.len
                rw [List.length_append, List.length_singleton] at this
                omega
              · obtain ⟨a, ha⟩ := HI.out.pre
                obtain ⟨a2, ha2⟩ := Tm.oneU_pre HS.out.symm
                exact ⟨a2 ++ a, by rw [HL7.out, ha2, ha, List.append_assoc]⟩
              · rw [HL7.out, show 2000 - (2000 - left') = left' from by omega]; exact HE.out
              · intro k hk hl
                rcases hk with e | e | e
                · exact .inl e
                · exact HI.out.own k (.inr (.inl (by simpa [Value.ownBlock] using e))) hl
                · exact HI.out.own k (.inr (.inr (HO7.out k e (Nat.lt_of_lt_of_le hl r3)))) hl
          | no q' =>
            have hu := (Tm.unify_no (r := pairsT ss) HS.out.symm).symm.trans HUN.out
            have HE := Lib.hid hu
            clear hu
            go_wp2_with (go_at_call 173; (with_reducible refine HON.out.mono ?_); rintro e w7 ⟨v7, rfl, rfl, l7, O7, hl7, u7, ho7, T7⟩; have HU7 := Lib.hid u7; have HL7 := Lib.hid hl7; have HO7 := Lib.hid ho7; have HT7 := Lib.hid T7; clear u7 hl7 ho7 T7)
            go_ret2
            rw [← HE.out]
            obtain ⟨r1, r2, r3⟩ := HI.out.far HT5.out HPC.out.2 HT7.out (fun k hk => by simpa [Value.ownBlock] using hk) HO7.out
            exact ⟨rfl, _, ss, O7, l7, by rw [HL7.out]; exact HI.out.pre, HU7.out, r1, r2⟩
          | over =>
            have hu := (Tm.unify_over (r := pairsT ss) HS.out.symm).symm.trans HUN.out
            have HE := Lib.hid hu
            clear hu
            go_wp2_with (go_at_call 173; (with_reducible refine HON.out.mono ?_); rintro e w7 ⟨v7, rfl, rfl, c7, l7, O7, hl7, u7, ho7, T7⟩; have HU7 := Lib.hid u7; have HL7 := Lib.hid hl7; have HO7 := Lib.hid ho7; have HT7 := Lib.hid T7; clear u7 hl7 ho7 T7)
            go_ret2
            rw [← HE.out]
            obtain ⟨r1, r2, r3⟩ := HI.out.far HT5.out HPC.out.2 HT7.out (fun k hk => by simpa [Value.ownBlock] using hk) HO7.out
            exact ⟨rfl, _, ss, c7, O7, l7, by rw [HL7.out]; exact HI.out.pre, HU7.out, r1, r2⟩
end
end Go.Proofs.Ytoihjobdfjajfaa

/- unify.Both. -/
namespace Go.Proofs.Ytoihjobdfjajfaa
open Go.RowKit Go.Maps
set_option linter.unusedVariables false
set_option linter.unusedSimpArgs false
theorem undoO101 {p O : Nat → Prop} {bb m : Nat} {l : TL} {w : World} (h : BO p bb O m l w) (n : Nat) (hn : n ≤ l.length) :
    Calls Try.prog 101 #[.pointer (some ⟨bb, 0, none⟩), .int .i64 n] w fun e w' => e = .returned (.bool true) ∧ After p bb O m (l.drop (l.length - n)) w w' := by
  obtain ⟨sb, lv, tv, B, hO⟩ := h.bi
  refine (undo101 B n hn).mono ?_
  rintro e w' ⟨rfl, ⟨tv', B', ho⟩, T⟩
  refine ⟨rfl, O, ⟨⟨sb, lv, tv', B', fun k hk => hO k ?_⟩, fun b hb => h.box b (List.mem_of_mem_drop hb), fun k hk => Nat.lt_of_lt_of_le (h.lt k hk) T.size, h.sep⟩, fun k hk _ => hk, T.mono (fun k _ e => hO k (e.elim (fun e => .inr (.inl e)) (fun e => e.elim (fun e => .inr (.inr (.inl e))) (fun e => .inr (.inr (.inr e))))))⟩
  rcases hk with e | e | e | e
  · exact .inl e
  · exact .inr (.inl e)
  · exact .inr (.inr (.inl e))
  · exact .inr (.inr (.inr (ho ▸ e)))
/-- What Both answers: whether, at which cost, the error, what was set. -/
noncomputable def bothR (m : Nat) (l : Tm.Trail) (x y : Tm Unit) : Bool × Int × Int × Tm.Trail :=
  if Tm.ownB m x = true ∧ Tm.ownB m y = true then
    match Tm.unify l 2000 [(x, y)] with
    | .ok l' left' => (true, 2000 - (left' : Int), 0, l')
    | .no q => (false, 2000 - (q : Int), 0, l)
    | .over => (false, 0, 12, l)
  else (false, 0, 1, l)
/-- The maker, newly laid. -/
theorem UK.new {p O : Nat → Prop} {bb m : Nat} {l : TL} {w : World} {x y : LT} (h : BO p bb O m l w) (hx : x.In p w) (gx : Tm.ownB m x.bare = true) (hy : y.In p w) (gy : Tm.ownB m y.bare = true) :
    UK p bb (w.heap.size + 1) (.slice (some ⟨w.heap.size, 0, none⟩) 1 1) [(x, y)] 0 O m l ((w.alloc (.cells #[.int .i64 x.kind, .int .i64 x.n, .string x.name, .slice x.at_.1 x.args.length x.at_.2, .int .i64 y.kind, .int .i64 y.n, .string y.name, .slice y.at_.1 y.args.length y.at_.2] 187)).alloc (.cells #[.pointer (some ⟨bb, 0, none⟩), .slice (some ⟨w.heap.size, 0, none⟩) 1 1, .int .i64 0] 190)) := by
  have T : Turned (fun _ => False) w ((w.alloc (.cells #[.int .i64 x.kind, .int .i64 x.n, .string x.name, .slice x.at_.1 x.args.length x.at_.2, .int .i64 y.kind, .int .i64 y.n, .string y.name, .slice y.at_.1 y.args.length y.at_.2] 187)).alloc (.cells #[.pointer (some ⟨bb, 0, none⟩), .slice (some ⟨w.heap.size, 0, none⟩) 1 1, .int .i64 0] 190)) := ((Turned.refl _ w).alloc _).alloc _
  refine ⟨h.turned0 T, heap_alloc2_new w _ _, ?_, fun q hq => ?_, ⟨fun e => by have := h.lt _ e; omega, fun e => by have := h.plt _ e; omega⟩, fun g hg => ?_⟩
  · have := Row.made w 187 8 #[.int .i64 x.kind, .int .i64 x.n, .string x.name, .slice x.at_.1 x.args.length x.at_.2, .int .i64 y.kind, .int .i64 y.n, .string y.name, .slice y.at_.1 y.args.length y.at_.2] 1 rfl (by unfold maxLen; omega)
    have := this.turned0 ((Turned.refl (fun _ => False) _).alloc (.cells #[.pointer (some ⟨bb, 0, none⟩), .slice (some ⟨w.heap.size, 0, none⟩) 1 1, .int .i64 0] 190))
    simpa [PT.cells_eq] using this
  · rw [List.mem_singleton] at hq
    rw [hq]
    exact ⟨⟨hx.turned0 T, gx⟩, hy.turned0 T, gy⟩
  · simp [Value.ownBlock] at hg
    subst hg
    exact ⟨fun e => by have := h.lt _ e; omega, fun e => by have := h.plt _ e; omega, by omega⟩
section
variable {p O : Nat → Prop} {bb m : Nat} {l : TL} {w w' : World}
theorem both_after {v v' : Value} {st : List PT} {c : Int} {K : Nat} {O' : Nat → Prop} {l2 : TL} {w4 w6 w5 : World} (T4 : Turned (fun _ => False) w w4) (T5 : Turned (fun _ => False) w w5) (hK : w.heap.size ≤ K) (hv : ∀ g, v.ownBlock = some g → w.heap.size ≤ g) (u : UK p bb K v' st c O' m l2 w6) (ho : ∀ k, O' k → k < w5.heap.size → O k) (T6 : Turned (ownU K v O) w5 w6) : After p bb O m l2 w w6 :=
  ⟨O', u.bo, fun k hk hl => ho k hk (Nat.lt_of_lt_of_le hl T5.size), (T5.mono (fun _ _ f => f.elim)).step T6 (fun i hi e => by
    rcases e with e | e | e
    · omega
    · have := hv i e; omega
    · exact e)⟩
set_option maxRecDepth 100000 in
set_option maxHeartbeats 12800000 in
theorem bothO110 {x y : LT} (h : BO p bb O m l w) (hx : x.In p w) (sx : slim x) (hy : y.In p w) (sy : slim y) :
    Calls Try.prog 110 #[.pointer (some ⟨bb, 0, none⟩), x.val, y.val] w fun e w' => e = .returned (.tuple #[.bool (bothR m (bt l) x.bare y.bare).1, .int .i64 (bothR m (bt l) x.bare y.bare).2.1, .int .i64 (bothR m (bt l) x.bare y.bare).2.2.1]) ∧ ∃ l2, bt l2 = (bothR m (bt l) x.bare y.bare).2.2.2 ∧ After p bb O m l2 w w' := by
  have h2 := twoBox w (.cells #[.int .i64 x.kind, .int .i64 x.n, .string x.name, .slice x.at_.1 x.args.length x.at_.2] 27) (.cells #[.int .i64 y.kind, .int .i64 y.n, .string y.name, .slice y.at_.1 y.args.length y.at_.2] 27)
  obtain ⟨w2, hw2⟩ : ∃ z, z = (w.alloc (.cells #[.int .i64 x.kind, .int .i64 x.n, .string x.name, .slice x.at_.1 x.args.length x.at_.2] 27)).alloc (.cells #[.int .i64 y.kind, .int .i64 y.n, .string y.name, .slice y.at_.1 y.args.length y.at_.2] 27) := ⟨_, rfl⟩
  rw [← hw2] at h2
  have hbx : ∀ W, Turned (fun _ => False) w2 W → W.heap[w.heap.size]? = some (.cells #[.int .i64 x.kind, .int .i64 x.n, .string x.name, .slice x.at_.1 x.args.length x.at_.2] 27 (0, 0)) ∧ W.heap[w.heap.size + 1]? = some (.cells #[.int .i64 y.kind, .int .i64 y.n, .string y.name, .slice y.at_.1 y.args.length y.at_.2] 27 (0, 0)) := fun W hW => ⟨(hW.block _ (by have := h2.2.1; omega) (fun f => f)).trans h2.2.2.1, (hW.block _ (by have := h2.2.1; omega) (fun f => f)).trans h2.2.2.2⟩
  have hox : ∀ W, Turned (fun _ => False) w2 W → Calls Try.prog 144 #[.pointer (some ⟨bb, 0, none⟩), x.val] W fun e w' => e = .returned (.bool (Tm.ownB m x.bare)) ∧ Turned (fun _ => False) W w' := fun W hW => by
    obtain ⟨sb, lv, tv, B, _⟩ := h.bi
    rw [ownB_bare]
    exact own144 (B.turned0 (h2.1.trans hW)) (hx.turned0 (h2.1.trans hW)) sx
  have hoy : ∀ W, Turned (fun _ => False) w2 W → Calls Try.prog 144 #[.pointer (some ⟨bb, 0, none⟩), y.val] W fun e w' => e = .returned (.bool (Tm.ownB m y.bare)) ∧ Turned (fun _ => False) W w' := fun W hW => by
    obtain ⟨sb, lv, tv, B, _⟩ := h.bi
    rw [ownB_bare]
    exact own144 (B.turned0 (h2.1.trans hW)) (hy.turned0 (h2.1.trans hW)) sy
  obtain ⟨R, hR⟩ : ∃ z, z = bothR m (bt l) x.bare y.bare := ⟨_, rfl⟩
  rw [← hR]
  have hsame : ∀ W, Turned (fun _ => False) w2 W → After p bb O m l w W := fun W hW => ⟨O, h.turned0 (h2.1.trans hW), fun _ hk _ => hk, (h2.1.trans hW).mono (fun _ _ f => f.elim)⟩
  rw [LT.val_eq] at hox hoy ⊢
  rw [LT.val_eq y]
  have HOX := Lib.hid hox
  have HOY := Lib.hid hoy
  have HBX := Lib.hid hbx
  have HW2 := Lib.hid hw2
  have HT2 := Lib.hid h2.1
  have HH := Lib.hid h
  have HX := Lib.hid hx
  have HY := Lib.hid hy
  have HSAME := Lib.hid hsame
  clear hox hoy hbx hw2 h2 h hx hy sx sy hsame
  cases gx : Tm.ownB m x.bare with
  | false =>
    have hr : R = (false, 0, 1, bt l) := by rw [hR]; unfold bothR; rw [if_neg (fun c => by rw [gx] at c; exact Bool.false_ne_true c.1)]
    rw [gx] at HOX
    have HR := Lib.hid hr
    clear hr hR gx
    go_enter Try.func110, Try.ntmps110
    go_wp2_with (go_at_call 144; rw [← HW2.out]; (with_reducible refine (HOX.out _ (Turned.refl _ _)).mono ?_); rintro e w3 ⟨rfl, T3⟩)
    go_ret3
    rw [HR.out]
    exact ⟨rfl, l, rfl, HSAME.out _ T3⟩
  | true =>
    rw [gx] at HOX
    cases gy : Tm.ownB m y.bare with
    | false =>
      have hr : R = (false, 0, 1, bt l) := by rw [hR]; unfold bothR; rw [if_neg (fun c => by rw [gy] at c; exact Bool.false_ne_true c.2)]
      rw [gy] at HOY
      have HR := Lib.hid hr
      clear hr hR gx gy
      go_enter Try.func110, Try.ntmps110
      go_wp2_with (first
        | (go_at_call 144; (with_reducible refine (HOY.out _ T3).mono ?_); rintro e w4 ⟨rfl, T4⟩)
        | (go_at_call 144; rw [← HW2.out]; (with_reducible refine (HOX.out _ (Turned.refl _ _)).mono ?_); rintro e w3 ⟨rfl, T3⟩; obtain ⟨c0, c1, c2, c3, _⟩ := cells4 (HBX.out _ T3).2))
      go_ret3
      rw [HR.out]
      exact ⟨rfl, l, rfl, HSAME.out _ (T3.trans T4)⟩
    | true =>
      rw [gy] at HOY
      have hr : R = match Tm.unify (bt l) 2000 [(x.bare, y.bare)] with
          | .ok l' left' => (true, 2000 - (left' : Int), 0, l')
          | .no q => (false, 2000 - (q : Int), 0, bt l)
          | .over => (false, 0, 12, bt l) := by rw [hR]; unfold bothR; rw [if_pos ⟨gx, gy⟩]
      have hall : ∀ W, Turned (fun _ => False) w2 W → Calls Try.prog 153 #[.pointer (some ⟨W.heap.size + 1, 0, none⟩)] ((W.alloc (.cells #[.int .i64 x.kind, .int .i64 x.n, .string x.name, .slice x.at_.1 x.args.length x.at_.2, .int .i64 y.kind, .int .i64 y.n, .string y.name, .slice y.at_.1 y.args.length y.at_.2] 187)).alloc (.cells #[.pointer (some ⟨bb, 0, none⟩), .slice (some ⟨W.heap.size, 0, none⟩) 1 1, .int .i64 0] 190)) (AllQ p bb (W.heap.size + 1) (.slice (some ⟨W.heap.size, 0, none⟩) 1 1) O m l ((W.alloc (.cells #[.int .i64 x.kind, .int .i64 x.n, .string x.name, .slice x.at_.1 x.args.length x.at_.2, .int .i64 y.kind, .int .i64 y.n, .string y.name, .slice y.at_.1 y.args.length y.at_.2] 187)).alloc (.cells #[.pointer (some ⟨bb, 0, none⟩), .slice (some ⟨W.heap.size, 0, none⟩) 1 1, .int .i64 0] 190)) (Tm.unify (bt l) 2000 [(x.bare, y.bare)])) := fun W hW =>
        all153 (c := 0) (UK.new (HH.out.turned0 (HT2.out.trans hW)) (HX.out.turned0 (HT2.out.trans hW)) gx (HY.out.turned0 (HT2.out.trans hW)) gy) (by omega) (by simp)
      obtain ⟨U, hU⟩ : ∃ z, z = Tm.unify (bt l) 2000 [(x.bare, y.bare)] := ⟨_, rfl⟩
      rw [← hU] at hr hall
      have HALL := Lib.hid hall
      clear hR hU hall gx gy
      have HTT : Hid (∀ W W', Turned (fun _ => False) w2 W → Turned (fun _ => False) W W' → Turned (fun _ => False) w W') := fun W W' h1 h2 => (HT2.out.trans h1).trans h2
      cases U with
      | ok l' left' =>
        have HR := Lib.hid hr
        clear hr
        go_enter Try.func110, Try.ntmps110
        go_wp2_with (first
          | (go_at_call 144; (with_reducible refine (HOY.out _ T3).mono ?_); rintro e w4 ⟨rfl, T4⟩; have HT4 := Lib.hid (T3.trans T4); clear c0 c1 c2 c3 T3 T4)
          | (go_at_call 144; rw [← HW2.out]; (with_reducible refine (HOX.out _ (Turned.refl _ _)).mono ?_); rintro e w3 ⟨rfl, T3⟩; obtain ⟨c0, c1, c2, c3, _⟩ := cells4 (HBX.out _ T3).2)
          | (go_at_call 111; (with_reducible refine (markO111 (HH.out.turned0 (HT2.out.trans HT4.out))).mono ?_); rintro e w5 ⟨rfl, T5⟩; have HT5 := Lib.hid (HT4.out.trans T5); obtain ⟨x0, x1, x2, x3, _⟩ := cells4 (HBX.out _ HT5.out).1; obtain ⟨y0, y1, y2, y3, _⟩ := cells4 (HBX.out _ HT5.out).2; clear T5)
          | (go_at_call 153; (with_reducible refine (HALL.out _ HT5.out).mono ?_); rintro e w6 ⟨rfl, v6, st6, O6, l6, hl6, u6, ho6, T6⟩; have HL6 := Lib.hid hl6; have HU6 := Lib.hid u6; have HO6 := Lib.hid ho6; have HT6 := Lib.hid T6; obtain ⟨k0, k1, k2, _⟩ := u6.kcells; clear hl6 u6 ho6 T6))
        go_region
        go_wp2_with fail
        go_ret3
        rw [HR.out]
        have hw5 : Turned (fun _ => False) w ((w5.alloc (.cells #[.int .i64 x.kind, .int .i64 x.n, .string x.name, .slice x.at_.1 x.args.length x.at_.2, .int .i64 y.kind, .int .i64 y.n, .string y.name, .slice y.at_.1 y.args.length y.at_.2] 187)).alloc (.cells #[.pointer (some ⟨bb, 0, none⟩), .slice (some ⟨w5.heap.size, 0, none⟩) 1 1, .int .i64 0] 190)) := HTT.out _ _ HT5.out (((Turned.refl _ w5).alloc _).alloc _)
        have hsz : w.heap.size ≤ w5.heap.size := (HT2.out.trans HT5.out).size
        exact ⟨rfl, l6, HL6.out, (both_after hw5 hw5 (by omega) (fun g hg => by (simp [Value.ownBlock] at hg; omega)) HU6.out HO6.out HT6.out).turned0 (Turned.refl _ _).drew⟩
      | no q =>
        have HR := Lib.hid hr
        clear hr
        go_enter Try.func110, Try.ntmps110
        go_wp2_with (first
          | (go_at_call 144; (with_reducible refine (HOY.out _ T3).mono ?_); rintro e w4 ⟨rfl, T4⟩; have HT4 := Lib.hid (T3.trans T4); clear c0 c1 c2 c3 T3 T4)
          | (go_at_call 144; rw [← HW2.out]; (with_reducible refine (HOX.out _ (Turned.refl _ _)).mono ?_); rintro e w3 ⟨rfl, T3⟩; obtain ⟨c0, c1, c2, c3, _⟩ := cells4 (HBX.out _ T3).2)
          | (go_at_call 111; (with_reducible refine (markO111 (HH.out.turned0 (HT2.out.trans HT4.out))).mono ?_); rintro e w5 ⟨rfl, T5⟩; have HT5 := Lib.hid (HT4.out.trans T5); obtain ⟨x0, x1, x2, x3, _⟩ := cells4 (HBX.out _ HT5.out).1; obtain ⟨y0, y1, y2, y3, _⟩ := cells4 (HBX.out _ HT5.out).2; clear T5)
          | (go_at_call 153; (with_reducible refine (HALL.out _ HT5.out).mono ?_); rintro e w6 ⟨rfl, v6, st6, O6, l6, hl6, u6, ho6, T6⟩; have HL6 := Lib.hid hl6; have HU6 := Lib.hid u6; have HO6 := Lib.hid ho6; have HT6 := Lib.hid T6; clear hl6 u6 ho6 T6)
          | (go_at_call 101; have hun := undoO101 (n := l.length) HU6.out.bo (by obtain ⟨a, ha⟩ := HL6.out; have := congrArg List.length ha; rw [List.length_append, bt_length, bt_length] at this; omega); (with_reducible refine hun.mono ?_); rintro e w7 ⟨rfl, A7⟩; have HA7 := Lib.hid A7; obtain ⟨k0, k1, k2, _⟩ := (HU6.out.after A7).choose_spec.1.kcells; clear A7 hun))
        go_region
        go_wp2_with fail
        go_ret3
        rw [HR.out]
        have hw5 : Turned (fun _ => False) w ((w5.alloc (.cells #[.int .i64 x.kind, .int .i64 x.n, .string x.name, .slice x.at_.1 x.args.length x.at_.2, .int .i64 y.kind, .int .i64 y.n, .string y.name, .slice y.at_.1 y.args.length y.at_.2] 187)).alloc (.cells #[.pointer (some ⟨bb, 0, none⟩), .slice (some ⟨w5.heap.size, 0, none⟩) 1 1, .int .i64 0] 190)) := HTT.out _ _ HT5.out (((Turned.refl _ w5).alloc _).alloc _)
        have hsz : w.heap.size ≤ w5.heap.size := (HT2.out.trans HT5.out).size
        have h6 := both_after hw5 hw5 (by omega) (fun g hg => by (simp [Value.ownBlock] at hg; omega)) HU6.out HO6.out HT6.out
        refine ⟨rfl, l6.drop (l6.length - l.length), ?_, ?_⟩
        · obtain ⟨a, ha⟩ := HL6.out
          have hlen := congrArg List.length ha
          rw [List.length_append, bt_length, bt_length] at hlen
          show bt _ = bt l
          unfold bt at ha ⊢
          rw [List.map_drop, ha, show l6.length - l.length = a.length from by omega, List.drop_left]
        · obtain ⟨O7, a1, a2, a3⟩ := HA7.out
          obtain ⟨O8, b1, b2, b3⟩ := h6
          have hs6 := hw5.size
          have hs7 := HT6.out.size
          refine After.turned0 (w2 := _) ⟨O7, a1, fun k hk hl => HO6.out k (a2 k hk (by omega)) (by omega), b3.step a3 (fun i hi e => HO6.out i e (by omega))⟩ (Turned.refl _ _).drew
      | over =>
        have HR := Lib.hid hr
        clear hr
        go_enter Try.func110, Try.ntmps110
        go_wp2_with (first
          | (go_at_call 144; (with_reducible refine (HOY.out _ T3).mono ?_); rintro e w4 ⟨rfl, T4⟩; have HT4 := Lib.hid (T3.trans T4); clear c0 c1 c2 c3 T3 T4)
          | (go_at_call 144; rw [← HW2.out]; (with_reducible refine (HOX.out _ (Turned.refl _ _)).mono ?_); rintro e w3 ⟨rfl, T3⟩; obtain ⟨c0, c1, c2, c3, _⟩ := cells4 (HBX.out _ T3).2)
          | (go_at_call 111; (with_reducible refine (markO111 (HH.out.turned0 (HT2.out.trans HT4.out))).mono ?_); rintro e w5 ⟨rfl, T5⟩; have HT5 := Lib.hid (HT4.out.trans T5); obtain ⟨x0, x1, x2, x3, _⟩ := cells4 (HBX.out _ HT5.out).1; obtain ⟨y0, y1, y2, y3, _⟩ := cells4 (HBX.out _ HT5.out).2; clear T5)
          | (go_at_call 153; (with_reducible refine (HALL.out _ HT5.out).mono ?_); rintro e w6 ⟨rfl, v6, st6, c6, O6, l6, hl6, u6, ho6, T6⟩; have HL6 := Lib.hid hl6; have HU6 := Lib.hid u6; have HO6 := Lib.hid ho6; have HT6 := Lib.hid T6; clear hl6 u6 ho6 T6)
          | (go_at_call 101; have hun := undoO101 (n := l.length) HU6.out.bo (by obtain ⟨a, ha⟩ := HL6.out; have := congrArg List.length ha; rw [List.length_append, bt_length, bt_length] at this; omega); (with_reducible refine hun.mono ?_); rintro e w7 ⟨rfl, A7⟩; have HA7 := Lib.hid A7; clear A7 hun))
        go_ret3
        rw [HR.out]
        have hw5 : Turned (fun _ => False) w ((w5.alloc (.cells #[.int .i64 x.kind, .int .i64 x.n, .string x.name, .slice x.at_.1 x.args.length x.at_.2, .int .i64 y.kind, .int .i64 y.n, .string y.name, .slice y.at_.1 y.args.length y.at_.2] 187)).alloc (.cells #[.pointer (some ⟨bb, 0, none⟩), .slice (some ⟨w5.heap.size, 0, none⟩) 1 1, .int .i64 0] 190)) := HTT.out _ _ HT5.out (((Turned.refl _ w5).alloc _).alloc _)
        have hsz : w.heap.size ≤ w5.heap.size := (HT2.out.trans HT5.out).size
        have h6 := both_after hw5 hw5 (by omega) (fun g hg => by (simp [Value.ownBlock] at hg; omega)) HU6.out HO6.out HT6.out
        refine ⟨rfl, l6.drop (l6.length - l.length), ?_, ?_⟩
        · obtain ⟨a, ha⟩ := HL6.out
          have hlen := congrArg List.length ha
          rw [List.length_append, bt_length, bt_length] at hlen
          show bt _ = bt l
          unfold bt at ha ⊢
          rw [List.map_drop, ha, show l6.length - l.length = a.length from by omega, List.drop_left]
        · obtain ⟨O7, a1, a2, a3⟩ := HA7.out
          obtain ⟨O8, b1, b2, b3⟩ := h6
          have hs6 := hw5.size
          have hs7 := HT6.out.size
          refine ⟨O7, a1, fun k hk hl => HO6.out k (a2 k hk (by omega)) (by omega), b3.step a3 (fun i hi e => HO6.out i e (by omega))⟩
end
end Go.Proofs.Ytoihjobdfjajfaa

/- unify.Could. -/
namespace Go.Proofs.Ytoihjobdfjajfaa
open Go.RowKit Go.Maps
set_option linter.unusedVariables false
set_option linter.unusedSimpArgs false
/-- What Both answers at two that were renamed apart. -/
noncomputable def couldR (x y : Tm Unit) : Bool × Int × Int × Tm.Trail := bothR (0 + x.vars.length + y.vars.length) [] (Tm.fromT x ((0 : Nat) : Int)) (Tm.fromT y ((0 + x.vars.length : Nat) : Int))
/-- Whether two could be made alike. -/
noncomputable def couldB (x y : Tm Unit) : Bool := goodB x && (goodB y && ((couldR x y).1 && decide ((couldR x y).2.2.1 = 0)))
/-- How far the region is. -/
def CdS (p : Nat → Prop) (bb : Nat) (O0 : Nat → Prop) (x y : LT) (w1 : World) : List Value → World → Prop
  | [], W => Turned (fun _ => False) w1 W
  | [a], W => ∃ (u : LT) (O' : Nat → Prop), a = .agg #[.int .i64 u.kind, .int .i64 u.n, .string u.name, .slice u.at_.1 u.args.length u.at_.2] ∧ u.bare = Tm.fromT x.bare ((0 : Nat) : Int) ∧ BO p bb O' (0 + x.vars.length) [] W ∧ (∀ k, O' k → k < w1.heap.size → O0 k) ∧ Turned O0 w1 W ∧ u.In (fun k => p k ∨ (w1.heap.size ≤ k ∧ ¬ O' k)) W
  | [a, b], W => ∃ (u v : LT) (q O' : Nat → Prop), a = .agg #[.int .i64 u.kind, .int .i64 u.n, .string u.name, .slice u.at_.1 u.args.length u.at_.2] ∧ b = .agg #[.int .i64 v.kind, .int .i64 v.n, .string v.name, .slice v.at_.1 v.args.length v.at_.2] ∧ u.bare = Tm.fromT x.bare ((0 : Nat) : Int) ∧ v.bare = Tm.fromT y.bare ((0 + x.vars.length : Nat) : Int) ∧ BO q bb O' (0 + x.vars.length + y.vars.length) [] W ∧ (∀ k, O' k → k < w1.heap.size → O0 k) ∧ Turned O0 w1 W ∧ u.In q W ∧ v.In q W
  | [_, _, c], W => c = .tuple #[.bool (couldR x.bare y.bare).1, .int .i64 (couldR x.bare y.bare).2.1, .int .i64 (couldR x.bare y.bare).2.2.1] ∧ Turned O0 w1 W
  | _, _ => False
section
variable {p O0 : Nat → Prop} {bb : Nat} {x y : LT} {w1 : World}
theorem CdS.turned0 : ∀ (hs : List Value) (w w' : World), CdS p bb O0 x y w1 hs w → Turned (fun _ => False) w w' → CdS p bb O0 x y w1 hs w'
  | [], _, _, h, T => Turned.trans h T
  | [_], _, _, ⟨u, O', h1, h2, h3, h4, h5, h6⟩, T => ⟨u, O', h1, h2, h3.turned0 T, h4, h5.trans (T.mono (fun _ _ f => f.elim)), h6.turned0 T⟩
  | [_, _], _, _, ⟨u, v, q, O', h1, h2, h3, h4, h5, h6, h7, h8, h9⟩, T => ⟨u, v, q, O', h1, h2, h3, h4, h5.turned0 T, h6, h7.trans (T.mono (fun _ _ f => f.elim)), h8.turned0 T, h9.turned0 T⟩
  | [_, _, _], _, _, ⟨h1, h2⟩, T => ⟨h1, h2.trans (T.mono (fun _ _ f => f.elim))⟩
  | _ :: _ :: _ :: _ :: _, _, _, h, _ => h.elim
theorem CdS.turned : ∀ (hs : List Value) (W : World), CdS p bb O0 x y w1 hs W → Turned O0 w1 W
  | [], _, h => Turned.mono h (fun _ _ f => f.elim)
  | [_], _, ⟨u, O', h1, h2, h3, h4, h5, h6⟩ => h5
  | [_, _], _, ⟨u, v, q, O', h1, h2, h3, h4, h5, h6, h7, h8, h9⟩ => h7
  | [_, _, _], _, ⟨h1, h2⟩ => h2
  | _ :: _ :: _ :: _ :: _, _, h => h.elim
theorem CdS.val : ∀ (hs : List Value) (W : World) {c : Value}, CdS p bb O0 x y w1 hs W → hs[2]? = some c → c = .tuple #[.bool (couldR x.bare y.bare).1, .int .i64 (couldR x.bare y.bare).2.1, .int .i64 (couldR x.bare y.bare).2.2.1]
  | [], _, _, _, e => by simp at e
  | [_], _, _, _, e => by simp at e
  | [_, _], _, _, _, e => by simp at e
  | [_, _, _], _, _, h, e => by simp at e; rw [← e]; exact h.1
  | _ :: _ :: _ :: _ :: _, _, _, h, _ => h.elim
/-- The second one renamed: both lie where nobody else writes. -/
theorem cd_two {W W' : World} {u v : LT} {O' O2 : Nat → Prop} (h2 : u.bare = Tm.fromT x.bare ((0 : Nat) : Int)) (h3 : BO p bb O' (0 + x.vars.length) [] W) (h4 : ∀ k, O' k → k < w1.heap.size → O0 k) (h5 : Turned O0 w1 W) (h6 : u.In (fun k => p k ∨ (w1.heap.size ≤ k ∧ ¬ O' k)) W)
    (hv : v.bare = Tm.fromT y.bare ((0 + x.vars.length : Nat) : Int)) (b1 : BO p bb O2 (0 + x.vars.length + y.vars.length) [] W') (b2 : ∀ k, O2 k → k < W.heap.size → O' k) (b3 : Turned O' W W') (hi : v.In (fun k => p k ∨ (W.heap.size ≤ k ∧ ¬ O2 k)) W') : CdS p bb O0 x y w1 [.agg #[.int .i64 u.kind, .int .i64 u.n, .string u.name, .slice u.at_.1 u.args.length u.at_.2], .agg #[.int .i64 v.kind, .int .i64 v.n, .string v.name, .slice v.at_.1 v.args.length v.at_.2]] W' := by
  have hs := h5.size
  refine ⟨u, v, fun k => k < W'.heap.size ∧ ¬ O2 k, O2, rfl, rfl, h2, hv, b1.wide (fun k hk => ⟨b1.plt k hk, b1.sep k hk⟩) (fun k hk => hk), fun k hk hl => h4 k (b2 k hk (by omega)) hl, h5.step b3 (fun i hi e => h4 i e hi), ?_, ?_⟩
  · exact LT.In.turned b3 (fun k hl hk e => by
      rcases hk with hk | hk
      · exact h3.sep k hk e
      · exact hk.2 e) (fun k hl hk => ⟨Nat.lt_of_lt_of_le hl b3.size, fun c => by
      rcases hk with hk | hk
      · exact b1.sep k hk c
      · exact hk.2 (b2 k c hl)⟩) _ h6
  · refine hi.mono (fun k hl hk => ⟨hl, fun c => ?_⟩)
    rcases hk with hk | hk
    · exact b1.sep k hk c
    · exact hk.2 c
end
set_option maxRecDepth 100000 in
set_option maxHeartbeats 12800000 in
theorem could112 {x y : LT} {w : World} (hx : x.In (fun _ => True) w) (sx : slim x) (hy : y.In (fun _ => True) w) (sy : slim y) :
    Calls Try.prog 112 #[x.val, y.val] w fun e w' => e = .returned (.bool (couldB x.bare y.bare)) ∧ Turned (fun _ => False) w w' := by
  have h2 := twoBox w (.cells #[.int .i64 x.kind, .int .i64 x.n, .string x.name, .slice x.at_.1 x.args.length x.at_.2] 27) (.cells #[.int .i64 y.kind, .int .i64 y.n, .string y.name, .slice y.at_.1 y.args.length y.at_.2] 27)
  obtain ⟨w2, hw2⟩ : ∃ z, z = (w.alloc (.cells #[.int .i64 x.kind, .int .i64 x.n, .string x.name, .slice x.at_.1 x.args.length x.at_.2] 27)).alloc (.cells #[.int .i64 y.kind, .int .i64 y.n, .string y.name, .slice y.at_.1 y.args.length y.at_.2] 27) := ⟨_, rfl⟩
  rw [← hw2] at h2
  have hkp : ∀ W, Turned (fun _ => False) w2 W → (W.cell? ⟨w.heap.size, 0, none⟩ = some (.int .i64 x.kind) ∧ W.cell? ⟨w.heap.size, 1, none⟩ = some (.int .i64 x.n) ∧ W.cell? ⟨w.heap.size, 2, none⟩ = some (.string x.name) ∧ W.cell? ⟨w.heap.size, 3, none⟩ = some (.slice x.at_.1 x.args.length x.at_.2)) ∧ (W.cell? ⟨w.heap.size + 1, 0, none⟩ = some (.int .i64 y.kind) ∧ W.cell? ⟨w.heap.size + 1, 1, none⟩ = some (.int .i64 y.n) ∧ W.cell? ⟨w.heap.size + 1, 2, none⟩ = some (.string y.name) ∧ W.cell? ⟨w.heap.size + 1, 3, none⟩ = some (.slice y.at_.1 y.args.length y.at_.2)) := fun W h =>
    ⟨four_of ((h.block _ (by have := h2.2.1; omega) (fun f => f)).trans h2.2.2.1), four_of ((h.block _ (by have := h2.2.1; omega) (fun f => f)).trans h2.2.2.2)⟩
  have HKP := Lib.hid hkp
  have HW2 := Lib.hid hw2
  have HT2 := Lib.hid h2.1
  have HX := Lib.hid (hx.turned0 h2.1)
  have HY := Lib.hid (hy.turned0 h2.1)
  have HSX := Lib.hid sx
  have HSY := Lib.hid sy
  rw [LT.val_eq, LT.val_eq y]
  clear hkp hw2 h2 hx hy sx sy
  cases gx : goodB x with
  | false =>
    have hR : couldB x.bare y.bare = false := by unfold couldB; rw [goodB_bare, gx]; rfl
    have HG := Lib.hid gx
    rw [hR]
    clear gx hR
    go_enter Try.func112, Try.ntmps112
    go_wp2_with (go_at_call 38; rw [← HW2.out]; (with_reducible refine (goodVal' (b := false) HX.out HSX.out HG.out).mono ?_); rintro e w3 ⟨rfl, T3⟩)
    go_ret
    exact ⟨rfl, HT2.out.trans T3⟩
  | true =>
  have HG := Lib.hid gx
  cases gy : goodB y with
  | false =>
    have hR : couldB x.bare y.bare = false := by unfold couldB; rw [goodB_bare, gx, goodB_bare, gy]; rfl
    have HGY := Lib.hid gy
    rw [hR]
    clear gx gy hR
    go_enter Try.func112, Try.ntmps112
    go_wp2_with (first
      | (go_at_call 38; (with_reducible refine (goodVal' (b := false) (HY.out.turned0 T3) HSY.out HGY.out).mono ?_); rintro e w4 ⟨rfl, T4⟩)
      | (go_at_call 38; rw [← HW2.out]; (with_reducible refine (goodVal' (b := true) HX.out HSX.out HG.out).mono ?_); rintro e w3 ⟨rfl, T3⟩; obtain ⟨_, d0, d1, d2, d3⟩ := HKP.out _ T3))
    go_ret
    exact ⟨rfl, (HT2.out.trans T3).trans T4⟩
  | true =>
  have HGY := Lib.hid gy
  have hR : couldB x.bare y.bare = ((couldR x.bare y.bare).1 && decide ((couldR x.bare y.bare).2.2.1 = 0)) := by unfold couldB; rw [goodB_bare, gx, goodB_bare, gy]; rfl
  obtain ⟨R, hRR⟩ : ∃ z, z = couldR x.bare y.bare := ⟨_, rfl⟩
  have hlx : x.vars.length ≤ 2000 := by have := varsB_le x; unfold varsB at this; rw [if_pos gx] at this; exact this
  have hly : y.vars.length ≤ 2000 := by have := varsB_le y; unfold varsB at this; rw [if_pos gy] at this; exact this
  obtain ⟨RB, hRB⟩ : ∃ z, z = couldB x.bare y.bare := ⟨_, rfl⟩
  obtain ⟨ok, hok⟩ : ∃ z, z = (couldR x.bare y.bare).1 := ⟨_, rfl⟩
  obtain ⟨er, her⟩ : ∃ z, z = (couldR x.bare y.bare).2.2.1 := ⟨_, rfl⟩
  rw [← hRB] at hR ⊢
  rw [← hok, ← her] at hR
  have HOKE := Lib.hid hok.symm
  have HERE := Lib.hid her.symm
  have HRB := Lib.hid hR
  clear hR gx gy hRB hok her
  go_enter Try.func112, Try.ntmps112
  go_wp2_with (first
    | (go_at_call 38; (with_reducible refine (goodVal' (b := true) (HY.out.turned0 T3) HSY.out HGY.out).mono ?_); rintro e w4 ⟨rfl, T4⟩; have HT4 := Lib.hid (T3.trans T4); clear T3 T4)
    | (go_at_call 38; rw [← HW2.out]; (with_reducible refine (goodVal' (b := true) HX.out HSX.out HG.out).mono ?_); rintro e w3 ⟨rfl, T3⟩; obtain ⟨_, d0, d1, d2, d3⟩ := HKP.out _ T3)
    | (go_at_call 86; (with_reducible refine (newO86 (p := fun k => k < w4.heap.size) _ (fun k h => h)).mono ?_); rintro e w5 ⟨bb, rfl, B5, _, T5⟩; have HB5 := Lib.hid B5; have HT5 := Lib.hid (HT4.out.trans T5); have HT45 := Lib.hid T5; clear B5 T5))
  obtain ⟨O0, hO0⟩ : ∃ z : Nat → Prop, z = fun k => w4.heap.size ≤ k ∧ k < w5.heap.size := ⟨_, rfl⟩
  rw [← hO0] at HB5
  have HO0 : Hid (∀ k, O0 k → w4.heap.size ≤ k) := by intro k hk; rw [hO0] at hk; exact hk.1
  have HXI : Hid (x.In (fun k => k < w4.heap.size) w5) := ((HX.out.turned0 HT4.out).mono (fun k hk _ => hk)).turned0 HT45.out
  have HYI : Hid (y.In (fun k => k < w4.heap.size) w5) := ((HY.out.turned0 HT4.out).mono (fun k hk _ => hk)).turned0 HT45.out
  have HPO : Hid (∀ k, k < w4.heap.size → ¬ O0 k) := fun k hk e => by have := HO0.out k e; omega
  have HKW : Hid (∀ W, Turned O0 w5 W → (W.cell? ⟨w.heap.size, 0, none⟩ = some (.int .i64 x.kind) ∧ W.cell? ⟨w.heap.size, 1, none⟩ = some (.int .i64 x.n) ∧ W.cell? ⟨w.heap.size, 2, none⟩ = some (.string x.name) ∧ W.cell? ⟨w.heap.size, 3, none⟩ = some (.slice x.at_.1 x.args.length x.at_.2)) ∧ (W.cell? ⟨w.heap.size + 1, 0, none⟩ = some (.int .i64 y.kind) ∧ W.cell? ⟨w.heap.size + 1, 1, none⟩ = some (.int .i64 y.n) ∧ W.cell? ⟨w.heap.size + 1, 2, none⟩ = some (.string y.name) ∧ W.cell? ⟨w.heap.size + 1, 3, none⟩ = some (.slice y.at_.1 y.args.length y.at_.2))) := fun W T => by
    refine HKP.out W (HT4.out.trans ?_)
    exact HT45.out.step T (fun i hi e => by have := HO0.out i e; omega)
  clear hO0 hRR d0 d1 d2 d3 hlx hly
  have hlx : x.vars.length ≤ 2000 := by have := varsB_le x; unfold varsB at this; rw [if_pos HG.out] at this; exact this
  have hly : y.vars.length ≤ 2000 := by have := varsB_le y; unfold varsB at this; rw [if_pos HGY.out] at this; exact this
  refine wp_region_hsW [19, 20, 21, 22, 23, 24, 25, 26, 18, 27, 28, 29, 6, 7, 8] [3, 6, 7] [2, 0, 0, 1, 1, 1, 2, 3, 3, 3, 3, 3, 3, 3, 3] [22, 25, 26] (fun dd vv => (match dd with | 19 => vv = .pointer (some ⟨bb, 0, none⟩) | 20 => vv = .pointer (some ⟨bb, 0, none⟩) | 21 => vv = .agg #[.int .i64 x.kind, .int .i64 x.n, .string x.name, .slice x.at_.1 x.args.length x.at_.2] | 23 => vv = .pointer (some ⟨bb, 0, none⟩) | 24 => vv = .agg #[.int .i64 y.kind, .int .i64 y.n, .string y.name, .slice y.at_.1 y.args.length y.at_.2] | 18 => vv = .tuple #[.bool (couldR x.bare y.bare).1, .int .i64 (couldR x.bare y.bare).2.1, .int .i64 (couldR x.bare y.bare).2.2.1] | 27 => vv = .bool (couldR x.bare y.bare).1 | 28 => vv = .int .i64 (couldR x.bare y.bare).2.1 | 29 => vv = .int .i64 (couldR x.bare y.bare).2.2.1 | 6 => vv = .bool (couldR x.bare y.bare).1 | 7 => vv = .int .i64 (couldR x.bare y.bare).2.1 | 8 => vv = .int .i64 (couldR x.bare y.bare).2.2.1 | _ => True : Prop)) (CdS (fun k => k < w4.heap.size) bb O0 x y w5) (by kernel_rfl) rfl (by kernel_rfl) (by kernel_rfl) (by kernel_rfl) (by kernel_rfl) (fun w h => h) (fun hs w w' h T => CdS.turned0 hs w w' h T) ?hs ?hQ
  case hs =>
    refine ⟨?s0, ?s1, ?s2, ?s3, ?s4, ?s5, ?s6, ?s7, ?s8, ?s9, ?s10, ?s11, ?s12, ?s13, ?s14, trivial⟩
    case s0 =>
      refine fun hs hle => stepG_free [] [5] (by kernel_rfl) rfl ?_
      intro ac W hT hI hO
      have hle : hs.length ≤ 2 := hle
      have h5 : ac.tmps.getD 5 undef = .pointer (some ⟨bb, 0, none⟩) := hO 5 (by simp)
      show Brings Try.prog (fun vv w' => Turned (fun _ => False) W w' ∧ vv = .pointer (some ⟨bb, 0, none⟩)) _
      simp only [execOp, Act.eval, h5]
      go_simp
      try exact ⟨Turned.refl _ _, rfl⟩
    case s1 =>
      refine fun hs hle => stepG_free [] [5] (by kernel_rfl) rfl ?_
      intro ac W hT hI hO
      have hle : hs.length ≤ 0 := hle
      have h5 : ac.tmps.getD 5 undef = .pointer (some ⟨bb, 0, none⟩) := hO 5 (by simp)
      show Brings Try.prog (fun vv w' => Turned (fun _ => False) W w' ∧ vv = .pointer (some ⟨bb, 0, none⟩)) _
      simp only [execOp, Act.eval, h5]
      go_simp
      try exact ⟨Turned.refl _ _, rfl⟩
    case s2 =>
      refine fun hs hle => stepG_free [] [2] (by kernel_rfl) rfl ?_
      intro ac W hT hI hO
      have hle : hs.length ≤ 0 := hle
      have h2 : ac.tmps.getD 2 undef = .pointer (some ⟨w.heap.size, 0, none⟩) := hO 2 (by simp)
      show Brings Try.prog (fun vv w' => Turned (fun _ => False) W w' ∧ vv = .agg #[.int .i64 x.kind, .int .i64 x.n, .string x.name, .slice x.at_.1 x.args.length x.at_.2]) _
      obtain ⟨⟨c0, c1, c2, c3⟩, d0, d1, d2, d3⟩ := HKW.out W (CdS.turned hs W hT)
      simp only [execOp, Act.eval, h2]
      go_simp
      try exact ⟨Turned.refl _ _, rfl⟩
    case s3 =>
      refine fun hs hlen => stepG_free [20, 21] [] (by kernel_rfl) rfl ?_
      intro ac W hT hI hO
      have h20 : ac.tmps.getD 20 undef = .pointer (some ⟨bb, 0, none⟩) := hI 20 (by simp)
      have h21 : ac.tmps.getD 21 undef = .agg #[.int .i64 x.kind, .int .i64 x.n, .string x.name, .slice x.at_.1 x.args.length x.at_.2] := hI 21 (by simp)
      obtain rfl : hs = [] := List.eq_nil_of_length_eq_zero hlen
      replace hT : Turned (fun _ => False) w5 W := hT
      show Brings Try.prog (fun vv w' => CdS (fun k => k < w4.heap.size) bb O0 x y w5 [vv] w') _
      have hrn := renamed155 (HB5.out.turned0 hT) (HXI.out.turned0 hT) HG.out (by omega)
      rw [LT.val_eq] at hrn
      have HRN := Lib.hid hrn
      clear hrn
      simp only [execOp, Act.eval, h20, h21]
      go_simp
      show Calls Try.prog 155 _ W _
      (with_reducible refine HRN.out.mono ?_)
      rintro e w' ⟨u, O', rfl, g1, g2, g3, g4, g5⟩
      exact ⟨_, rfl, u, O', by rw [LT.val_eq], g1, g2, fun k hk hl => g3 k hk (Nat.lt_of_lt_of_le hl hT.size), (hT.mono (fun _ _ f => f.elim)).trans g4, g5.mono (fun k _ hk => hk.elim .inl (fun hk => .inr ⟨Nat.le_trans hT.size hk.1, hk.2⟩))⟩
    case s4 =>
      refine fun hs hle => stepG_free [] [5] (by kernel_rfl) rfl ?_
      intro ac W hT hI hO
      have hle : hs.length ≤ 1 := hle
      have h5 : ac.tmps.getD 5 undef = .pointer (some ⟨bb, 0, none⟩) := hO 5 (by simp)
      show Brings Try.prog (fun vv w' => Turned (fun _ => False) W w' ∧ vv = .pointer (some ⟨bb, 0, none⟩)) _
      simp only [execOp, Act.eval, h5]
      go_simp
      try exact ⟨Turned.refl _ _, rfl⟩
    case s5 =>
      refine fun hs hle => stepG_free [] [3] (by kernel_rfl) rfl ?_
      intro ac W hT hI hO
      have hle : hs.length ≤ 1 := hle
      have h3 : ac.tmps.getD 3 undef = .pointer (some ⟨w.heap.size + 1, 0, none⟩) := hO 3 (by simp)
      show Brings Try.prog (fun vv w' => Turned (fun _ => False) W w' ∧ vv = .agg #[.int .i64 y.kind, .int .i64 y.n, .string y.name, .slice y.at_.1 y.args.length y.at_.2]) _
      obtain ⟨⟨c0, c1, c2, c3⟩, d0, d1, d2, d3⟩ := HKW.out W (CdS.turned hs W hT)
      simp only [execOp, Act.eval, h3]
      go_simp
      try exact ⟨Turned.refl _ _, rfl⟩
    case s6 =>
      refine fun hs hlen => stepG_free [23, 24] [] (by kernel_rfl) rfl ?_
      intro ac W hT hI hO
      have h23 : ac.tmps.getD 23 undef = .pointer (some ⟨bb, 0, none⟩) := hI 23 (by simp)
      have h24 : ac.tmps.getD 24 undef = .agg #[.int .i64 y.kind, .int .i64 y.n, .string y.name, .slice y.at_.1 y.args.length y.at_.2] := hI 24 (by simp)
      obtain ⟨a, rfl⟩ := List.length_eq_one_iff.1 hlen
      obtain ⟨u, O', a1, a2, a3, a4, a5, a6⟩ := hT
      show Brings Try.prog (fun vv w' => CdS (fun k => k < w4.heap.size) bb O0 x y w5 [a, vv] w') _
      subst a1
      have hyw : y.In (fun k => k < w4.heap.size) W := LT.In.turned a5 (fun k _ hk e => HPO.out k hk e) (fun _ _ hk => hk) _ HYI.out
      have hrn := renamed155 a3 hyw HGY.out (by omega)
      rw [LT.val_eq] at hrn
      have HRN := Lib.hid hrn
      have HTC := Lib.hid (And.intro a2 (And.intro a3 (And.intro a4 (And.intro a5 a6))))
      clear hrn hyw a2 a3 a4 a5 a6
      simp only [execOp, Act.eval, h23, h24]
      go_simp
      show Calls Try.prog 155 _ W _
      (with_reducible refine HRN.out.mono ?_)
      rintro e w' ⟨v, O2, rfl, g1, g2, g3, g4, g5⟩
      refine ⟨_, rfl, ?_⟩
      rw [LT.val_eq]
      exact cd_two HTC.out.1 HTC.out.2.1 HTC.out.2.2.1 HTC.out.2.2.2.1 HTC.out.2.2.2.2 g1 g2 g3 g4 g5
    case s7 =>
      refine fun hs hlen => stepG_free [19, 22, 25] [] (by kernel_rfl) rfl ?_
      intro ac W hT hI hO
      have h19 : ac.tmps.getD 19 undef = .pointer (some ⟨bb, 0, none⟩) := hI 19 (by simp)
      have h22 : hs[0]? = some (ac.tmps.getD 22 undef) := hI 22 (by simp)
      have h25 : hs[1]? = some (ac.tmps.getD 25 undef) := hI 25 (by simp)
      obtain ⟨a, b, rfl⟩ := list2' hlen
      obtain ⟨u, v, q, O', a1, a2, a3, a4, a5, a6, a7, a8, a9⟩ := hT
      have e22 : a = ac.tmps.getD 22 undef := by simpa using h22
      have e25 : b = ac.tmps.getD 25 undef := by simpa using h25
      rw [e22] at a1
      rw [e25] at a2
      show Brings Try.prog (fun vv w' => CdS (fun k => k < w4.heap.size) bb O0 x y w5 [a, b, vv] w') _
      have hgx : goodB x.bare = true := by rw [goodB_bare]; exact HG.out
      have hgy : goodB y.bare = true := by rw [goodB_bare]; exact HGY.out
      have su : slim u := good_slim (by rw [← goodB_bare, a3]; exact goodB_fromT hgx (by omega) (by rw [Tm.vars_bare]; omega))
      have sv : slim v := good_slim (by rw [← goodB_bare, a4]; exact goodB_fromT hgy (by omega) (by rw [Tm.vars_bare]; omega))
      have hbo := bothO110 a5 a8 su a9 sv
      rw [a3, a4, LT.val_eq, LT.val_eq] at hbo
      have hcr : bothR (0 + x.vars.length + y.vars.length) (bt []) (Tm.fromT x.bare ((0 : Nat) : Int)) (Tm.fromT y.bare ((0 + x.vars.length : Nat) : Int)) = couldR x.bare y.bare := by unfold couldR; rw [Tm.vars_bare, Tm.vars_bare]; rfl
      rw [hcr] at hbo
      have HBO := Lib.hid hbo
      have HA7 := Lib.hid a7
      have HA6 := Lib.hid a6
      clear hbo hcr su sv hgx hgy a3 a4 a5 a6 a7 a8 a9 e22 e25
      simp only [execOp, Act.eval, h19, a1, a2]
      go_simp
      show Calls Try.prog 110 _ W _
      (with_reducible refine HBO.out.mono ?_)
      rintro e w' ⟨rfl, l2, _, O2, b1, b2, b3⟩
      exact ⟨_, rfl, rfl, HA7.out.step b3 (fun i hi e => HA6.out i e hi)⟩
    case s8 =>
      refine fun hs hle => stepG_free [26] [] (by kernel_rfl) rfl ?_
      intro ac W hT hI hO
      have hle : hs.length ≤ 3 := hle
      have h26 : hs[2]? = some (ac.tmps.getD 26 undef) := hI 26 (by simp)
      show Brings Try.prog (fun vv w' => Turned (fun _ => False) W w' ∧ vv = .tuple #[.bool (couldR x.bare y.bare).1, .int .i64 (couldR x.bare y.bare).2.1, .int .i64 (couldR x.bare y.bare).2.2.1]) _
      have e26 := CdS.val hs W hT h26
      simp only [execOp, Act.eval, e26]
      go_simp
      try exact ⟨Turned.refl _ _, rfl⟩
    case s9 =>
      refine fun hs hle => stepG_free [18] [] (by kernel_rfl) rfl ?_
      intro ac W hT hI hO
      have hle : hs.length ≤ 3 := hle
      have h18 : ac.tmps.getD 18 undef = .tuple #[.bool (couldR x.bare y.bare).1, .int .i64 (couldR x.bare y.bare).2.1, .int .i64 (couldR x.bare y.bare).2.2.1] := hI 18 (by simp)
      show Brings Try.prog (fun vv w' => Turned (fun _ => False) W w' ∧ vv = .bool (couldR x.bare y.bare).1) _
      simp only [execOp, Act.eval, h18]
      go_simp
      try exact ⟨Turned.refl _ _, rfl⟩
    case s10 =>
      refine fun hs hle => stepG_free [18] [] (by kernel_rfl) rfl ?_
      intro ac W hT hI hO
      have hle : hs.length ≤ 3 := hle
      have h18 : ac.tmps.getD 18 undef = .tuple #[.bool (couldR x.bare y.bare).1, .int .i64 (couldR x.bare y.bare).2.1, .int .i64 (couldR x.bare y.bare).2.2.1] := hI 18 (by simp)
      show Brings Try.prog (fun vv w' => Turned (fun _ => False) W w' ∧ vv = .int .i64 (couldR x.bare y.bare).2.1) _
      simp only [execOp, Act.eval, h18]
      go_simp
      try exact ⟨Turned.refl _ _, rfl⟩
    case s11 =>
      refine fun hs hle => stepG_free [18] [] (by kernel_rfl) rfl ?_
      intro ac W hT hI hO
      have hle : hs.length ≤ 3 := hle
      have h18 : ac.tmps.getD 18 undef = .tuple #[.bool (couldR x.bare y.bare).1, .int .i64 (couldR x.bare y.bare).2.1, .int .i64 (couldR x.bare y.bare).2.2.1] := hI 18 (by simp)
      show Brings Try.prog (fun vv w' => Turned (fun _ => False) W w' ∧ vv = .int .i64 (couldR x.bare y.bare).2.2.1) _
      simp only [execOp, Act.eval, h18]
      go_simp
      try exact ⟨Turned.refl _ _, rfl⟩
    case s12 =>
      refine fun hs hle => stepG_free [27] [] (by kernel_rfl) rfl ?_
      intro ac W hT hI hO
      have hle : hs.length ≤ 3 := hle
      have h27 : ac.tmps.getD 27 undef = .bool (couldR x.bare y.bare).1 := hI 27 (by simp)
      show Brings Try.prog (fun vv w' => Turned (fun _ => False) W w' ∧ vv = .bool (couldR x.bare y.bare).1) _
      simp only [execOp, Act.eval, h27]
      go_simp
      try exact ⟨Turned.refl _ _, rfl⟩
    case s13 =>
      refine fun hs hle => stepG_free [28] [] (by kernel_rfl) rfl ?_
      intro ac W hT hI hO
      have hle : hs.length ≤ 3 := hle
      have h28 : ac.tmps.getD 28 undef = .int .i64 (couldR x.bare y.bare).2.1 := hI 28 (by simp)
      show Brings Try.prog (fun vv w' => Turned (fun _ => False) W w' ∧ vv = .int .i64 (couldR x.bare y.bare).2.1) _
      simp only [execOp, Act.eval, h28]
      go_simp
      try exact ⟨Turned.refl _ _, rfl⟩
    case s14 =>
      refine fun hs hle => stepG_free [29] [] (by kernel_rfl) rfl ?_
      intro ac W hT hI hO
      have hle : hs.length ≤ 3 := hle
      have h29 : ac.tmps.getD 29 undef = .int .i64 (couldR x.bare y.bare).2.2.1 := hI 29 (by simp)
      show Brings Try.prog (fun vv w' => Turned (fun _ => False) W w' ∧ vv = .int .i64 (couldR x.bare y.bare).2.2.1) _
      simp only [execOp, Act.eval, h29]
      go_simp
      try exact ⟨Turned.refl _ _, rfl⟩
  case hQ =>
    intro hs vs w6 hlen hRS hV
    have T6 := CdS.turned hs w6 hRS
    have q6 : vs 6 = .bool ok := by rw [← HOKE.out]; exact hV 6 (by simp)
    have q8 : vs 8 = .int .i64 er := by rw [← HERE.out]; exact hV 8 (by simp)
    simp only [List.foldl_cons, List.foldl_nil, List.setIfInBounds_toArray, List.set_cons_zero, List.set_cons_succ, q6, q8]
    clear hV q6 q8 hRS
    have hfin : Turned (fun _ => False) w w6 := (HT2.out.trans (HT4.out.trans HT45.out)).step T6 (fun i hi e => by have := HO0.out i e; have := (HT2.out.trans HT4.out).size; omega)
    have HF := Lib.hid hfin
    clear hfin T6
    cases ok with
    | false =>
      go_wp2_with fail
      go_ret
      exact ⟨by rw [HRB.out]; rfl, HF.out⟩
    | true =>
      by_cases he : er = 0
      · subst he
        go_wp2_with fail
        go_ret
        exact ⟨by rw [HRB.out]; rfl, HF.out⟩
      · have de : (er == 0) = false := by simp [he]
        have hrb : RB = false := by rw [HRB.out, decide_eq_false he]; rfl
        have HE := Lib.hid hrb
        clear he hrb
        go_wp2_with fail
        go_ret
        exact ⟨by rw [HE.out]; rfl, HF.out⟩
end Go.Proofs.Ytoihjobdfjajfaa

/- AliasLess: the walk. -/
namespace Go.Proofs.Ytoihjobdfjajfaa
open Go.RowKit Go.Maps
set_option linter.unusedVariables false
set_option linter.unusedSimpArgs false
set_option maxRecDepth 100000 in
set_option maxHeartbeats 3200000 in
theorem binds120 (n : Nat) (hn : n ≤ 65536) (w : World) :
    Calls Try.prog 120 #[.int .i64 n] w fun e w' => ∃ bb, e = .returned (.pointer (some ⟨bb, 0, none⟩)) ∧ BLoop w.heap.size bb n [] w w' := by
  go_enter Try.func120, Try.ntmps120
  go_wp2_with (go_at_call 86; (with_reducible refine (newO86 (p := fun k => k < w.heap.size) _ (fun k h => h)).mono ?_); rintro e w2 ⟨bb, rfl, B2, _, T2⟩; have HB2 : Hid (BLoop w.heap.size bb 0 [] w w2) := ⟨_, B2, fun k hk => hk.1, T2⟩; clear B2 T2)
  go_loopg [4] n (fun k i wr => ∃ j : Nat, Hid (j + k = n) ∧ j ≤ n ∧ i = .int .i64 j ∧ Hid (BLoop w.heap.size bb j [] w wr))
  case atStart => exact ⟨0, Nat.zero_add _, Nat.zero_le _, rfl, HB2⟩
  case round =>
    obtain ⟨j, HG, hj, rfl, HB⟩ := hrel
    by_cases hjn : j < n
    · have dj : decide ((j : Int) < (n : Int)) = true := decide_eq_true (by omega)
      go_wp2_with (go_at_call 87; obtain ⟨O, B, hO, T⟩ := HB.out; (with_reducible refine (freshO87 B (by omega)).mono ?_); rintro e w3 ⟨rfl, A3⟩; have HB3 : Hid (BLoop w.heap.size bb (j + 1) [] w w3) := BLoop.step rfl B hO T A3; clear B hO T A3)
      go_roundg (gk - 1)
      case measure => have := HG.out; omega
      case rel => exact ⟨j + 1, show _ = _ by have := HG.out; omega, by omega, by go_num, HB3⟩
    · obtain rfl : j = n := by omega
      have dj : decide ((j : Int) < (j : Int)) = false := decide_eq_false (by omega)
      go_wp2_with fail
      go_ret
      exact ⟨bb, rfl, HB.out⟩
theorem bothR_ok {m : Nat} {l l' : Tm.Trail} {x y : Tm Unit} {c : Int} (h : bothR m l x y = (true, c, 0, l')) : Tm.ownB m x = true ∧ Tm.ownB m y = true ∧ ∃ left', Tm.unify l 2000 [(x, y)] = .ok l' left' := by
  unfold bothR at h
  split at h
  · rename_i h1
    refine ⟨h1.1, h1.2, ?_⟩
    split at h
    · rename_i l2 left2 e
      injection h with _ h
      injection h with _ h
      injection h with _ h
      subst h
      exact ⟨left2, e⟩
    · injection h with h _; cases h
    · injection h with h _; cases h
  · injection h with h _; cases h
/-- Made alike, all the way in. -/
theorem unify_img {m : Nat} (hm : m ≤ 65536) {l l' : Tm.Trail} {x y : Tm Unit} {left left' : Nat} (hl : Tm.okT m l) (hx : Tm.ownB m x = true) (hy : Tm.ownB m y = true) (h : Tm.unify l left [(x, y)] = .ok l' left') : Tm.okT m l' ∧ Tm.img l' x = Tm.img l' y := by
  have := Tm.unify_spec hm _ l left [(x, y)] hl (fun p hp => by rw [List.mem_singleton] at hp; rw [hp]; exact ⟨hx, hy⟩) _ h
  obtain ⟨h1, _, _, h3⟩ := this
  exact ⟨h1, ((h3 _).1 (Tm.sig_solves h1)).2 (x, y) (List.mem_singleton.2 rfl)⟩
theorem binds8 (w : World) : Calls Try.prog 120 #[.int .i64 8] w fun e w' => ∃ bb, e = .returned (.pointer (some ⟨bb, 0, none⟩)) ∧ BLoop w.heap.size bb 8 [] w w' := binds120 8 (by omega) w
theorem more_img {x u : LT} {l : Tm.Trail} (gx : goodB x.bare = true) (gu : goodB u.bare = true) (h : u.bare = Tm.img l x.bare) : moreB x u = true := by
  unfold moreB
  rw [← goodB_bare x, ← goodB_bare u, gx, gu, (Tm.moreS_iff _ _).2 ⟨Tm.sig l, by rw [h]; rfl⟩]
  rfl
/-- Both, as the frame spells it. -/
theorem bothVal {p O : Nat → Prop} {bb m : Nat} {l : TL} {w : World} {x y : LT} {ok : Bool} {c e : Int} {tr : Tm.Trail} (h : BO p bb O m l w) (hx : x.In p w) (sx : slim x) (hy : y.In p w) (sy : slim y) (hR : bothR m (bt l) x.bare y.bare = (ok, c, e, tr)) :
    Calls Try.prog 110 #[.pointer (some ⟨bb, 0, none⟩), .agg #[.int .i64 x.kind, .int .i64 x.n, .string x.name, .slice x.at_.1 x.args.length x.at_.2], .agg #[.int .i64 y.kind, .int .i64 y.n, .string y.name, .slice y.at_.1 y.args.length y.at_.2]] w fun E w' => E = .returned (.tuple #[.bool ok, .int .i64 c, .int .i64 e]) ∧ ∃ l2, bt l2 = tr ∧ After p bb O m l2 w w' := by
  have := bothO110 h hx sx hy sy
  rw [LT.val_eq, LT.val_eq, hR] at this
  exact this
set_option maxRecDepth 100000 in
set_option maxHeartbeats 12800000 in
theorem aliasLess {w : World} {x y : LT} (hx : x.In (fun _ => True) w) (hy : y.In (fun _ => True) w) :
    Calls Try.prog 27 #[x.val, y.val] w fun e w' => e = .returned (.bool true) ∧ Turned (fun _ => False) w w' := by
  have h2 := twoBox w (.cells #[.int .i64 x.kind, .int .i64 x.n, .string x.name, .slice x.at_.1 x.args.length x.at_.2] 27) (.cells #[.int .i64 y.kind, .int .i64 y.n, .string y.name, .slice y.at_.1 y.args.length y.at_.2] 27)
  obtain ⟨w2, hw2⟩ : ∃ z, z = (w.alloc (.cells #[.int .i64 x.kind, .int .i64 x.n, .string x.name, .slice x.at_.1 x.args.length x.at_.2] 27)).alloc (.cells #[.int .i64 y.kind, .int .i64 y.n, .string y.name, .slice y.at_.1 y.args.length y.at_.2] 27) := ⟨_, rfl⟩
  rw [← hw2] at h2
  have hkp : ∀ W, Turned (fun _ => False) w2 W → (W.cell? ⟨w.heap.size, 0, none⟩ = some (.int .i64 x.kind) ∧ W.cell? ⟨w.heap.size, 1, none⟩ = some (.int .i64 x.n) ∧ W.cell? ⟨w.heap.size, 2, none⟩ = some (.string x.name) ∧ W.cell? ⟨w.heap.size, 3, none⟩ = some (.slice x.at_.1 x.args.length x.at_.2)) ∧ (W.cell? ⟨w.heap.size + 1, 0, none⟩ = some (.int .i64 y.kind) ∧ W.cell? ⟨w.heap.size + 1, 1, none⟩ = some (.int .i64 y.n) ∧ W.cell? ⟨w.heap.size + 1, 2, none⟩ = some (.string y.name) ∧ W.cell? ⟨w.heap.size + 1, 3, none⟩ = some (.slice y.at_.1 y.args.length y.at_.2)) := fun W h =>
    ⟨four_of ((h.block _ (by have := h2.2.1; omega) (fun f => f)).trans h2.2.2.1), four_of ((h.block _ (by have := h2.2.1; omega) (fun f => f)).trans h2.2.2.2)⟩
  have HKP := Lib.hid hkp
  have HW2 := Lib.hid hw2
  have HT2 := Lib.hid h2.1
  have HX := Lib.hid (hx.turned0 h2.1)
  have HY := Lib.hid (hy.turned0 h2.1)
  rw [LT.val_eq, LT.val_eq y]
  clear hkp hw2 h2 hx hy
  cases dx : deepB 30 x with
  | true =>
    have HDX := Lib.hid dx
    clear dx
    go_enter Try.func27, Try.ntmps27
    go_wp2_with (first
      | (go_at_call 69; refine (awake69 _).mono ?_; rintro e W0 ⟨rfl, T0⟩; rw [← HW2.out] at T0; have S0 := T0; obtain ⟨⟨c0, c1, c2, c3⟩, d0, d1, d2, d3⟩ := HKP.out _ S0)
      | (go_at_call 70; (with_reducible refine (deepVal 30 x _ 30 rfl (by omega) (HX.out.turned0 S0)).mono ?_); rintro e W1 ⟨rfl, T1⟩; rw [HDX.out]))
    go_ret
    exact ⟨rfl, (HT2.out.trans S0).trans T1⟩
  | false =>
  have HDX := Lib.hid dx
  have HSX := Lib.hid (deep_slim 30 x dx)
  clear dx
  cases dy : deepB 30 y with
  | true =>
    have HDY := Lib.hid dy
    clear dy
    go_enter Try.func27, Try.ntmps27
    go_wp2_with (first
      | (go_at_call 69; refine (awake69 _).mono ?_; rintro e W0 ⟨rfl, T0⟩; rw [← HW2.out] at T0; have S0 := T0; obtain ⟨⟨c0, c1, c2, c3⟩, d0, d1, d2, d3⟩ := HKP.out _ S0)
      | (go_at_call 70; (with_reducible refine (deepVal 30 x _ 30 rfl (by omega) (HX.out.turned0 S0)).mono ?_); rintro e W1 ⟨rfl, T1⟩; rw [HDX.out]; obtain ⟨⟨c0, c1, c2, c3⟩, d0, d1, d2, d3⟩ := HKP.out _ (S0.trans T1))
      | (go_at_call 70; (with_reducible refine (deepVal 30 y _ 30 rfl (by omega) (HY.out.turned0 (S0.trans T1))).mono ?_); rintro e W2 ⟨rfl, T2⟩; rw [HDY.out]))
    go_ret
    exact ⟨rfl, ((HT2.out.trans S0).trans T1).trans T2⟩
  | false =>
  have HDY := Lib.hid dy
  have HSY := Lib.hid (deep_slim 30 y dy)
  clear dy
  obtain ⟨R, hR⟩ : ∃ z, z = bothR 8 (bt []) x.bare y.bare := ⟨_, rfl⟩
  obtain ⟨ok, c, er, tr⟩ := R
  have HR := Lib.hid hR.symm
  clear hR
  by_cases hgo : er = 0 ∧ ok = true
  · obtain ⟨he0, hok1⟩ := hgo
    subst he0 hok1
    obtain ⟨gx, gy, left', hun⟩ := bothR_ok HR.out
    obtain ⟨hok, himg⟩ := unify_img (m := 8) (by omega) (l := bt []) trivial gx gy hun
    have HIM := Lib.hid himg
    have HGX := Lib.hid (Tm.ownB_iff.1 gx).1
    have HGY := Lib.hid (Tm.ownB_iff.1 gy).1
    have hcase := wholeE_cases 8 tr x.bare
    have hne : ¬ wholeE 8 tr x.bare = 1 := by unfold wholeE; rw [if_pos gx]; split <;> decide
    have HOK := Lib.hid hok
    clear gx gy hun hok himg
    rcases hcase with hE | hE | hE
    · have HE := Lib.hid hE
      have HEW := Lib.hid (fun (l : TL) (h : bt l = tr) => (show wholeE 8 (bt l) x.bare = _ from h ▸ hE))
      clear hE hne
      go_enter Try.func27, Try.ntmps27
      go_wp2_with (first
        | (go_at_call 78; have hq := HWQ.out; (with_reducible refine (moreVal (r := true) (((HY.out.turned0 HS2.out).turned0 (HT4.out.trans HT5.out)).turned0 T6) (HUI.out.turned0 T6) HSY.out (good_slimB hq.good) (more_img HGY.out hq.good (HUE.out.trans HIM.out))).mono ?_); rintro e W7 ⟨rfl, T7⟩)
        | (go_at_call 78; have hwq := wholeQ (u := u) (t := x.bare) HOK.out HE.out (by rw [← HL4.out]; exact HUB.out); have hue : u.bare = Tm.img tr x.bare := (by rw [HUB.out]; unfold wholeT; rw [HL4.out, HE.out]; rfl); (with_reducible refine (moreVal (r := true) ((HX.out.turned0 HS2.out).turned0 (HT4.out.trans HT5.out)) HUI.out HSX.out (good_slimB hwq.good) (more_img HGX.out hwq.good hue)).mono ?_); rintro e W6 ⟨rfl, T6⟩; obtain ⟨⟨c0, c1, c2, c3⟩, d0, d1, d2, d3⟩ := HKP.out _ (((HS2.out.trans HT4.out).trans HT5.out).trans T6); obtain ⟨u0, u1, u2, u3, _⟩ := cells4 ((T6.block _ (Array.getElem?_eq_some_iff.1 HBU.out).1 (fun f => f)).trans HBU.out); have HWQ := Lib.hid hwq; have HUE := Lib.hid hue; clear hwq hue)
        | (go_at_call 69; refine (awake69 _).mono ?_; rintro e W0 ⟨rfl, T0⟩; rw [← HW2.out] at T0; have S0 := T0; obtain ⟨⟨c0, c1, c2, c3⟩, d0, d1, d2, d3⟩ := HKP.out _ S0)
        | (go_at_call 70; (with_reducible refine (deepVal 30 x _ 30 rfl (by omega) (HX.out.turned0 S0)).mono ?_); rintro e W1 ⟨rfl, T1⟩; rw [HDX.out]; have S1 := S0.trans T1; obtain ⟨⟨c0, c1, c2, c3⟩, d0, d1, d2, d3⟩ := HKP.out _ S1; clear S0 T0 T1)
        | (go_at_call 70; (with_reducible refine (deepVal 30 y _ 30 rfl (by omega) (HY.out.turned0 S1)).mono ?_); rintro e W2 ⟨rfl, T2⟩; rw [HDY.out]; have HS2 := Lib.hid (S1.trans T2); obtain ⟨⟨c0, c1, c2, c3⟩, d0, d1, d2, d3⟩ := HKP.out _ HS2.out; clear S1 T2)
        | (go_at_call 120; (with_reducible refine (binds8 W2).mono ?_); rintro e W3 ⟨bb, rfl, hB3⟩; have HB3 := Lib.hid hB3; obtain ⟨_, _, _, T3⟩ := hB3; obtain ⟨⟨c0, c1, c2, c3⟩, d0, d1, d2, d3⟩ := HKP.out _ (HS2.out.trans T3); clear T3)
        | (go_at_call 110; (obtain ⟨O3, B3, hO3, T3⟩ := HB3.out; have hx3 := ((HX.out.turned0 HS2.out).mono (q := fun k => k < W2.heap.size) (fun k hk _ => hk)).turned0 T3; have hy3 := ((HY.out.turned0 HS2.out).mono (q := fun k => k < W2.heap.size) (fun k hk _ => hk)).turned0 T3; (with_reducible refine (bothVal B3 hx3 HSX.out hy3 HSY.out HR.out).mono ?_); rintro e W4 ⟨rfl, l4, hl4, A4⟩; have hB4 := BLoop.step rfl B3 hO3 T3 A4; have HB4 := Lib.hid hB4; have HL4 := Lib.hid hl4; obtain ⟨O4, _, _, T4⟩ := hB4; obtain ⟨⟨c0, c1, c2, c3⟩, d0, d1, d2, d3⟩ := HKP.out _ (HS2.out.trans T4); have HT4 := Lib.hid T4; clear B3 hO3 T3 hx3 hy3 hl4 T4 A4))
        | (go_at_call 89; (obtain ⟨O4, B4, hO4, _⟩ := HB4.out; have hx4 := ((HX.out.turned0 HS2.out).mono (q := fun k => k < W2.heap.size) (fun k hk _ => hk)).turned0 HT4.out; (with_reducible refine (wholeVal B4 hx4 HSX.out (HEW.out _ HL4.out)).mono ?_); rintro e W5 ⟨u, rfl, hub, hui, T5⟩; have T5b := T5.alloc (.cells #[.int .i64 u.kind, .int .i64 u.n, .string u.name, .slice u.at_.1 u.args.length u.at_.2] 27); have hbu := heap_alloc_new W5 (.cells #[.int .i64 u.kind, .int .i64 u.n, .string u.name, .slice u.at_.1 u.args.length u.at_.2] 27); obtain ⟨⟨c0, c1, c2, c3⟩, d0, d1, d2, d3⟩ := HKP.out _ ((HS2.out.trans HT4.out).trans T5b); obtain ⟨u0, u1, u2, u3, _⟩ := cells4 hbu; have HBU := Lib.hid hbu; have HUB := Lib.hid hub; have HUI := Lib.hid ((hui.mono (q := fun _ => True) (fun _ _ _ => trivial)).turned0 ((Turned.refl _ W5).alloc (.cells #[.int .i64 u.kind, .int .i64 u.n, .string u.name, .slice u.at_.1 u.args.length u.at_.2] 27))); have HT5 := Lib.hid T5b; clear B4 hO4 hx4 hub hui T5 T5b hbu)))
      go_ret
      exact ⟨rfl, ((((HT2.out.trans HS2.out).trans HT4.out).trans HT5.out).trans T6).trans T7⟩
    · exact absurd hE hne
    · have HE := Lib.hid hE
      have HEW := Lib.hid (fun (l : TL) (h : bt l = tr) => (show wholeE 8 (bt l) x.bare = _ from h ▸ hE))
      clear hE hne
      go_enter Try.func27, Try.ntmps27
      go_wp2_with (first
        | (go_at_call 69; refine (awake69 _).mono ?_; rintro e W0 ⟨rfl, T0⟩; rw [← HW2.out] at T0; have S0 := T0; obtain ⟨⟨c0, c1, c2, c3⟩, d0, d1, d2, d3⟩ := HKP.out _ S0)
        | (go_at_call 70; (with_reducible refine (deepVal 30 x _ 30 rfl (by omega) (HX.out.turned0 S0)).mono ?_); rintro e W1 ⟨rfl, T1⟩; rw [HDX.out]; have S1 := S0.trans T1; obtain ⟨⟨c0, c1, c2, c3⟩, d0, d1, d2, d3⟩ := HKP.out _ S1; clear S0 T0 T1)
        | (go_at_call 70; (with_reducible refine (deepVal 30 y _ 30 rfl (by omega) (HY.out.turned0 S1)).mono ?_); rintro e W2 ⟨rfl, T2⟩; rw [HDY.out]; have HS2 := Lib.hid (S1.trans T2); obtain ⟨⟨c0, c1, c2, c3⟩, d0, d1, d2, d3⟩ := HKP.out _ HS2.out; clear S1 T2)
        | (go_at_call 120; (with_reducible refine (binds8 W2).mono ?_); rintro e W3 ⟨bb, rfl, hB3⟩; have HB3 := Lib.hid hB3; obtain ⟨_, _, _, T3⟩ := hB3; obtain ⟨⟨c0, c1, c2, c3⟩, d0, d1, d2, d3⟩ := HKP.out _ (HS2.out.trans T3); clear T3)
        | (go_at_call 110; (obtain ⟨O3, B3, hO3, T3⟩ := HB3.out; have hx3 := ((HX.out.turned0 HS2.out).mono (q := fun k => k < W2.heap.size) (fun k hk _ => hk)).turned0 T3; have hy3 := ((HY.out.turned0 HS2.out).mono (q := fun k => k < W2.heap.size) (fun k hk _ => hk)).turned0 T3; (with_reducible refine (bothVal B3 hx3 HSX.out hy3 HSY.out HR.out).mono ?_); rintro e W4 ⟨rfl, l4, hl4, A4⟩; have hB4 := BLoop.step rfl B3 hO3 T3 A4; have HB4 := Lib.hid hB4; have HL4 := Lib.hid hl4; obtain ⟨O4, _, _, T4⟩ := hB4; obtain ⟨⟨c0, c1, c2, c3⟩, d0, d1, d2, d3⟩ := HKP.out _ (HS2.out.trans T4); have HT4 := Lib.hid T4; clear B3 hO3 T3 hx3 hy3 hl4 T4 A4))
        | (go_at_call 89; (obtain ⟨O4, B4, hO4, _⟩ := HB4.out; have hx4 := ((HX.out.turned0 HS2.out).mono (q := fun k => k < W2.heap.size) (fun k hk _ => hk)).turned0 HT4.out; (with_reducible refine (wholeVal B4 hx4 HSX.out (HEW.out _ HL4.out)).mono ?_); rintro e W5 ⟨u, rfl, hub, hui, T5⟩; have T5b := T5.alloc (.cells #[.int .i64 u.kind, .int .i64 u.n, .string u.name, .slice u.at_.1 u.args.length u.at_.2] 27); have hbu := heap_alloc_new W5 (.cells #[.int .i64 u.kind, .int .i64 u.n, .string u.name, .slice u.at_.1 u.args.length u.at_.2] 27); obtain ⟨⟨c0, c1, c2, c3⟩, d0, d1, d2, d3⟩ := HKP.out _ ((HS2.out.trans HT4.out).trans T5b); obtain ⟨u0, u1, u2, u3, _⟩ := cells4 hbu; have HBU := Lib.hid hbu; have HUB := Lib.hid hub; have HUI := Lib.hid ((hui.mono (q := fun _ => True) (fun _ _ _ => trivial)).turned0 ((Turned.refl _ W5).alloc (.cells #[.int .i64 u.kind, .int .i64 u.n, .string u.name, .slice u.at_.1 u.args.length u.at_.2] 27))); have HT5 := Lib.hid T5b; clear B4 hO4 hx4 hub hui T5 T5b hbu)))
      go_ret
      exact ⟨rfl, (((HT2.out.trans HS2.out).trans HT4.out).trans HT5.out)⟩
  · by_cases he : er = 0
    · have hok : ok = false := by cases ok with | false => rfl | true => exact absurd ⟨he, rfl⟩ hgo
      subst he hok
      clear hgo
      go_enter Try.func27, Try.ntmps27
      go_wp2_with (first
        | (go_at_call 69; refine (awake69 _).mono ?_; rintro e W0 ⟨rfl, T0⟩; rw [← HW2.out] at T0; have S0 := T0; obtain ⟨⟨c0, c1, c2, c3⟩, d0, d1, d2, d3⟩ := HKP.out _ S0)
        | (go_at_call 70; (with_reducible refine (deepVal 30 x _ 30 rfl (by omega) (HX.out.turned0 S0)).mono ?_); rintro e W1 ⟨rfl, T1⟩; rw [HDX.out]; have S1 := S0.trans T1; obtain ⟨⟨c0, c1, c2, c3⟩, d0, d1, d2, d3⟩ := HKP.out _ S1; clear S0 T0 T1)
        | (go_at_call 70; (with_reducible refine (deepVal 30 y _ 30 rfl (by omega) (HY.out.turned0 S1)).mono ?_); rintro e W2 ⟨rfl, T2⟩; rw [HDY.out]; have HS2 := Lib.hid (S1.trans T2); obtain ⟨⟨c0, c1, c2, c3⟩, d0, d1, d2, d3⟩ := HKP.out _ HS2.out; clear S1 T2)
        | (go_at_call 120; (with_reducible refine (binds8 W2).mono ?_); rintro e W3 ⟨bb, rfl, hB3⟩; have HB3 := Lib.hid hB3; obtain ⟨_, _, _, T3⟩ := hB3; obtain ⟨⟨c0, c1, c2, c3⟩, d0, d1, d2, d3⟩ := HKP.out _ (HS2.out.trans T3); clear T3)
        | (go_at_call 110; (obtain ⟨O3, B3, hO3, T3⟩ := HB3.out; have hx3 := ((HX.out.turned0 HS2.out).mono (q := fun k => k < W2.heap.size) (fun k hk _ => hk)).turned0 T3; have hy3 := ((HY.out.turned0 HS2.out).mono (q := fun k => k < W2.heap.size) (fun k hk _ => hk)).turned0 T3; (with_reducible refine (bothVal B3 hx3 HSX.out hy3 HSY.out HR.out).mono ?_); rintro e W4 ⟨rfl, l4, hl4, A4⟩; have hB4 := BLoop.step rfl B3 hO3 T3 A4; have HB4 := Lib.hid hB4; have HL4 := Lib.hid hl4; obtain ⟨O4, _, _, T4⟩ := hB4; obtain ⟨⟨c0, c1, c2, c3⟩, d0, d1, d2, d3⟩ := HKP.out _ (HS2.out.trans T4); have HT4 := Lib.hid T4; clear B3 hO3 T3 hx3 hy3 hl4 T4 A4)))
      go_ret
      exact ⟨rfl, (HT2.out.trans HS2.out).trans HT4.out⟩
    · have de : (er == 0) = false := by simp [he]
      have de' : (er != 0) = true := by simp [he]
      clear hgo he
      go_enter Try.func27, Try.ntmps27
      go_wp2_with (first
        | (go_at_call 69; refine (awake69 _).mono ?_; rintro e W0 ⟨rfl, T0⟩; rw [← HW2.out] at T0; have S0 := T0; obtain ⟨⟨c0, c1, c2, c3⟩, d0, d1, d2, d3⟩ := HKP.out _ S0)
        | (go_at_call 70; (with_reducible refine (deepVal 30 x _ 30 rfl (by omega) (HX.out.turned0 S0)).mono ?_); rintro e W1 ⟨rfl, T1⟩; rw [HDX.out]; have S1 := S0.trans T1; obtain ⟨⟨c0, c1, c2, c3⟩, d0, d1, d2, d3⟩ := HKP.out _ S1; clear S0 T0 T1)
        | (go_at_call 70; (with_reducible refine (deepVal 30 y _ 30 rfl (by omega) (HY.out.turned0 S1)).mono ?_); rintro e W2 ⟨rfl, T2⟩; rw [HDY.out]; have HS2 := Lib.hid (S1.trans T2); obtain ⟨⟨c0, c1, c2, c3⟩, d0, d1, d2, d3⟩ := HKP.out _ HS2.out; clear S1 T2)
        | (go_at_call 120; (with_reducible refine (binds8 W2).mono ?_); rintro e W3 ⟨bb, rfl, hB3⟩; have HB3 := Lib.hid hB3; obtain ⟨_, _, _, T3⟩ := hB3; obtain ⟨⟨c0, c1, c2, c3⟩, d0, d1, d2, d3⟩ := HKP.out _ (HS2.out.trans T3); clear T3)
        | (go_at_call 110; (obtain ⟨O3, B3, hO3, T3⟩ := HB3.out; have hx3 := ((HX.out.turned0 HS2.out).mono (q := fun k => k < W2.heap.size) (fun k hk _ => hk)).turned0 T3; have hy3 := ((HY.out.turned0 HS2.out).mono (q := fun k => k < W2.heap.size) (fun k hk _ => hk)).turned0 T3; (with_reducible refine (bothVal B3 hx3 HSX.out hy3 HSY.out HR.out).mono ?_); rintro e W4 ⟨rfl, l4, hl4, A4⟩; have hB4 := BLoop.step rfl B3 hO3 T3 A4; have HB4 := Lib.hid hB4; have HL4 := Lib.hid hl4; obtain ⟨O4, _, _, T4⟩ := hB4; obtain ⟨⟨c0, c1, c2, c3⟩, d0, d1, d2, d3⟩ := HKP.out _ (HS2.out.trans T4); have HT4 := Lib.hid T4; clear B3 hO3 T3 hx3 hy3 hl4 T4 A4)))
      go_ret
      exact ⟨rfl, (HT2.out.trans HS2.out).trans HT4.out⟩
end Go.Proofs.Ytoihjobdfjajfaa

/- IndexSafe: what could be made alike has keys that may be. -/
namespace Go.Proofs.Ytoihjobdfjajfaa
open Go.RowKit Go.Maps
set_option linter.unusedVariables false
set_option linter.unusedSimpArgs false
namespace Tm
/-- What a renaming and a sending keep of a term that is no variable. -/
theorem sent {θ : Int → Tm Unit} {s : Int → Int} {x : Tm Unit} (hk : ¬ x.kind = 0) : (subT θ (ren s x)).kind = x.kind ∧ (subT θ (ren s x)).n = x.n ∧ (subT θ (ren s x)).name = x.name ∧ (subT θ (ren s x)).args = x.args.map fun y => subT θ (ren s y) := by
  have h1 : ren s x = .mk x.kind x.n x.name () (x.args.map (ren s)) := subT_node _ hk
  have h2 : ¬ (ren s x).kind = 0 := by rw [h1]; exact hk
  rw [subT_node θ h2, h1]
  refine ⟨rfl, rfl, rfl, ?_⟩
  show (x.args.map (ren s)).map (subT θ) = _
  rw [List.map_map]; rfl
end Tm
theorem key_may {x y : Tm Unit} {θ : Int → Tm Unit} {s r : Int → Int} (hx : ¬ x.kind = 0) (hy : ¬ y.kind = 0) (h : Tm.subT θ (Tm.ren s x) = Tm.subT θ (Tm.ren r y)) : mayB (keyOf x) (keyOf y) = true := by
  obtain ⟨_, _, _, a4⟩ := Tm.sent (θ := θ) (s := s) hx
  obtain ⟨_, _, _, b4⟩ := Tm.sent (θ := θ) (s := r) hy
  rw [h, b4] at a4
  have z1 : ∀ k : Key, mayB Key.zero k = true := fun k => by unfold mayB; simp [Key.zero]
  have z2 : ∀ k : Key, mayB k Key.zero = true := fun k => by unfold mayB; simp [Key.zero]
  cases gx : goodB x with
  | false => rw [keyOf_bad gx]; exact z1 _
  | true =>
  cases gy : goodB y with
  | false => rw [keyOf_bad gy]; exact z2 _
  | true =>
  cases ex : x.args with
  | nil => rw [keyOf_nil ex]; exact z1 _
  | cons u l =>
  cases ey : y.args with
  | nil => rw [keyOf_nil ey]; exact z2 _
  | cons v l' =>
  rw [ex, ey] at a4
  simp only [List.map_cons, List.cons.injEq] at a4
  have e := a4.1
  rw [keyOf_cons ex gx, keyOf_cons ey gy]
  by_cases hu : u.kind = 0
  · rw [keyOf1_0 hu]; exact z1 _
  by_cases hv : v.kind = 0
  · rw [keyOf1_0 hv]; exact z2 _
  obtain ⟨c1, c2, c3, c4⟩ := Tm.sent (θ := θ) (s := s) hu
  obtain ⟨d1, d2, d3, d4⟩ := Tm.sent (θ := θ) (s := r) hv
  rw [← e] at c1 c2 c3 c4
  have k1 : v.kind = u.kind := d1.symm.trans c1
  have k2 : v.n = u.n := d2.symm.trans c2
  have k3 : v.name = u.name := d3.symm.trans c3
  have k4 : v.args.length = u.args.length := by
    have := congrArg List.length (d4.symm.trans c4)
    simpa using this
  have : keyOf1 u = keyOf1 v := by
    by_cases h1 : u.kind = 1
    · rw [keyOf1_1 h1, keyOf1_1 (k1.trans h1), k2]
    · rw [keyOf1_2 hu h1, keyOf1_2 hv (by rw [k1]; exact h1), k1, k3, k4]
  rw [this]
  unfold mayB; simp
theorem could_may {x y : Tm Unit} (h : couldB x y = true) : mayB (keyOf x) (keyOf y) = true := by
  unfold couldB at h
  simp only [Bool.and_eq_true, decide_eq_true_eq] at h
  obtain ⟨gx, gy, h1, h2⟩ := h
  have z1 : ∀ k : Key, mayB Key.zero k = true := fun k => by unfold mayB; simp [Key.zero]
  have z2 : ∀ k : Key, mayB k Key.zero = true := fun k => by unfold mayB; simp [Key.zero]
  have kz : ∀ t : Tm Unit, goodB t = true → t.kind = 0 → keyOf t = Key.zero := fun t g hk => keyOf_nil (by
    have := Tm.leafy_self (good_leafy g) hk
    rw [this]; rfl)
  by_cases hx : x.kind = 0
  · rw [kz x gx hx]; exact z1 _
  by_cases hy : y.kind = 0
  · rw [kz y gy hy]; exact z2 _
  have lx : x.vars.length ≤ 2000 := by have := varsB_le x; unfold varsB at this; rw [if_pos gx] at this; exact this
  have ly : y.vars.length ≤ 2000 := by have := varsB_le y; unfold varsB at this; rw [if_pos gy] at this; exact this
  unfold couldR at h1 h2
  obtain ⟨R, hR⟩ : ∃ R, R = bothR (0 + x.vars.length + y.vars.length) [] (Tm.fromT x ((0 : Nat) : Int)) (Tm.fromT y ((0 + x.vars.length : Nat) : Int)) := ⟨_, rfl⟩
  rw [← hR] at h1 h2
  obtain ⟨ok, c, er, tr⟩ := R
  simp only at h1 h2
  subst h1 h2
  obtain ⟨g1, g2, left', hun⟩ := bothR_ok hR.symm
  obtain ⟨_, himg⟩ := unify_img (by omega) (l := []) trivial g1 g2 hun
  exact key_may hx hy himg
end Go.Proofs.Ytoihjobdfjajfaa

/- own, as chapter 16's. -/
namespace Go.Proofs.Ytoihjobdfjajfaa
set_option linter.unusedVariables false
set_option linter.unusedSimpArgs false
open Go.RowKit

set_option maxRecDepth 100000 in
set_option maxHeartbeats 3200000 in
theorem own116 {p : Nat → Prop} (n : Nat) : ∀ (t : LT) (w : World), t.depth ≤ n → t.In p w → slim t →
    Calls Try.prog 116 #[t.val] w fun e w' => ∃ u : LT, e = .returned u.val ∧ u.bare = t.bare ∧ u.In (fun k => w.heap.size ≤ k) w' ∧ Turned (fun _ => False) w w' := by
  induction n with
  | zero => intro t w h; have := Tm.depth_pos t; omega
  | succ n ih =>
    intro t w hd ht hsl
    obtain ⟨i0, hi0, hz0, hz1, hz2⟩ := info_parts infoR
    have hl12 : t.args.length ≤ 12 := hsl t (by rw [Tm.flat_eq]; exact List.mem_cons_self ..)
    have hcall : ∀ x : LT, x ∈ t.args → ∀ W, x.In p W → Calls Try.prog 116 #[x.val] W fun e w' => ∃ u : LT, e = .returned u.val ∧ u.bare = x.bare ∧ u.In (fun k => W.heap.size ≤ k) w' ∧ Turned (fun _ => False) W w' := fun x hx W hW => ih x W (by have := arg_depth hx; omega) hW (fun y hy => hsl y (by rw [Tm.flat_eq]; exact List.mem_cons_of_mem _ (mem_flats_arg hx hy)))
    have HC := Lib.hid hcall
    have HIN := Lib.hid ht
    have hL := fun W h => (LT.In.lies (p := p) (w := W) (t := t) h)
    rw [LT.val_eq]
    obtain ⟨ad, had⟩ : ∃ z, z = t.at_.1 := ⟨_, rfl⟩
    obtain ⟨cd, hcd⟩ : ∃ z, z = t.at_.2 := ⟨_, rfl⟩
    rw [← had] at hL
    rw [← had, ← hcd]
    have HL := Lib.hid hL
    have H3 := Lib.hid (three w (.cells #[.int .i64 t.kind, .int .i64 t.n, .string t.name, .slice ad t.args.length cd] 27) (.cells #[.int .i64 0, .int .i64 0, .string ⟨#[]⟩, .slice none 0 0] 41) (.cells #[.int .i64 t.kind, .int .i64 t.n, .string t.name, .slice none 0 0] 41))
    clear ih hd hsl hcall ht hL had hcd
    go_enter Try.func116, Try.ntmps116
    go_wp2_with fail
    revert H3
    generalize (((w.alloc (.cells #[.int .i64 t.kind, .int .i64 t.n, .string t.name, .slice ad t.args.length cd] 27)).alloc (.cells #[.int .i64 0, .int .i64 0, .string ⟨#[]⟩, .slice none 0 0] 41)).alloc (.cells #[.int .i64 t.kind, .int .i64 t.n, .string t.name, .slice none 0 0] 41)) = w1
    intro H3
    obtain ⟨B0, hB0⟩ : ∃ z, z = w.heap.size := ⟨_, rfl⟩
    obtain ⟨B1, hB1⟩ : ∃ z, z = w.heap.size + 1 := ⟨_, rfl⟩
    obtain ⟨B2, hB2⟩ : ∃ z, z = w.heap.size + 2 := ⟨_, rfl⟩
    obtain ⟨N, hN⟩ : ∃ z, z = w.heap.size + 3 := ⟨_, rfl⟩
    rw [← hB1, ← hB2, ← hN, ← hB0] at H3
    have HE := Lib.hid (And.intro hB0 (And.intro hB1 (And.intro hB2 hN)))
    try rw [← hB2]
    try rw [← hB1]
    try rw [← hB0]
    clear hB0 hB1 hB2 hN
    have hinit : Hid (OwnI N B2 t w1 0 [] none 0 w1) := ⟨rfl, H3.out.2.2.2.1, Row.nil _ _ _, trivial, fun b h => by simp [Value.ownBlock] at h, Turned.refl _ _⟩
    go_loopg [4] t.args.length (fun g i wr => ∃ j : Nat, Hid (j + g = t.args.length) ∧ j ≤ t.args.length ∧ i = .int .i64 j ∧ ∃ us a c, Hid (OwnI N B2 t w1 j us a c wr))
    case atStart => exact ⟨0, Nat.zero_add _, Nat.zero_le _, rfl, [], none, 0, hinit⟩
    case round =>
      obtain ⟨j, HG, hj, rfl, us, a, c, HOI⟩ := hrel
      have HTw : Hid (Turned (fun _ => False) w wr) := H3.out.1.step HOI.out.turned (fun i hi e => by have := HE.out; omega)
      have hb0 := (HOI.out.turned.block B0 (Array.getElem?_eq_some_iff.1 H3.out.2.2.1).1 (fun e => by have := HE.out; omega)).trans H3.out.2.2.1
      obtain ⟨_, _, _, k3, _⟩ := cells4 hb0
      have hlen' : us.length = j := by have := congrArg List.length HOI.out.bares; rw [Tm.bares_length, Tm.bares_length, List.length_take] at this; omega
      have HUL := Lib.hid hlen'
      clear hb0 hlen'
      by_cases hjl : j < t.args.length
      · have hx : t.args[j]? = some t.args[j] := List.getElem?_eq_getElem hjl
        obtain ⟨x, hxe⟩ : ∃ x : LT, x = t.args[j] := ⟨_, rfl⟩
        rw [← hxe] at hx
        clear hxe
        have tin := HIN.out.turned0 HTw.out
        have xin := (LT.ins_iff _).1 tin.args x (List.mem_of_getElem? hx)
        obtain ⟨b, o, rfl, _, c0, c1, c2, c3⟩ := (HL.out _ tin).cell hx
        have hcx := fun W (h : Turned (fun _ => False) wr W) => HC.out x (List.mem_of_getElem? hx) W (xin.turned0 h)
        rw [LT.val_eq x] at hcx
        have HCX := Lib.hid hcx
        have HX := Lib.hid hx
        have HBN : Hid (B2 < N ∧ N ≤ wr.heap.size ∧ w1.heap.size ≤ N) := ⟨by have := HE.out; omega, by have := HOI.out.turned.size; have := H3.out.2.1; omega, by have := H3.out.2.1; omega⟩
        clear hx hcx xin tin
        go_wp2_with fail
        · skip
          refine wp_region_hs [19, 20, 21, 22, 23, 24, 25, 26, 27, 28, 29] [7, 8, 9, 11] [4, 2, 0, 0, 0, 0, 0, 4, 4, 4, 4, 4] [26, 27, 28, 100011] (fun d v => (match d with | 19 => v = .pointer (some ⟨B2, 3, none⟩) | 20 => v = .slice a j c | 21 => v = .pointer (some ⟨B0, 3, none⟩) | 22 => v = .slice (some ⟨b, o, none⟩) t.args.length cd | 23 => v = .int .i64 (j : Int) | 24 => v = .pointer (some ⟨b, o + j * 4, none⟩) | 25 => v = .agg #[.int .i64 x.kind, .int .i64 x.n, .string x.name, .slice x.at_.1 x.args.length x.at_.2] | 29 => v = .pointer (some ⟨B2, 3, none⟩) | _ => True : Prop)) (OwnS N B2 t x w1 j us a c wr) (by kernel_rfl) rfl (by kernel_rfl) (by kernel_rfl) (by kernel_rfl) (by kernel_rfl) (fun _ h => h) (fun hs w w' h ht => OwnS.turned0 hs w w' h ht) ?hs ?hQ
          case hs =>
            refine ⟨?s0, ?s1, ?s2, ?s3, ?s4, ?s5, ?s6, ?s7, ?s8, ?s9, ?s10, ?s11, trivial⟩
            case s0 =>
              refine fun hs hle => stepG_free [] [3] (by kernel_rfl) rfl ?_
              · intro ac W hT hI hO
                have h3 : ac.tmps.getD 3 undef = .pointer (some ⟨B2, 0, none⟩) := hO 3 (by simp)
                show Brings Try.prog (fun v w' => Turned (fun _ => False) W w' ∧ v = .pointer (some ⟨B2, 3, none⟩)) _
                simp only [execOp, Act.eval, h3]
                go_simp
                try exact ⟨Turned.refl _ _, rfl⟩
            case s1 =>
              refine fun hs hle => stepG_free [19] [] (by kernel_rfl) rfl ?_
              · intro ac W hT hI hO
                have hle : hs.length ≤ 2 := hle
                have h19 : ac.tmps.getD 19 undef = .pointer (some ⟨B2, 3, none⟩) := hI 19 (by simp)
                show Brings Try.prog (fun v w' => Turned (fun _ => False) W w' ∧ v = .slice a j c) _
                obtain ⟨_, _, _, d3⟩ := OwnS.blk HOI.out hs W hle hT
                simp only [execOp, Act.eval, h19]
                go_simp
                exact ⟨Turned.refl _ _, rfl⟩
            case s2 =>
              refine fun hs hle => stepG_free [] [1] (by kernel_rfl) rfl ?_
              · intro ac W hT hI hO
                have hle : hs.length ≤ 0 := hle
                have h1 : ac.tmps.getD 1 undef = .pointer (some ⟨B0, 0, none⟩) := hO 1 (by simp)
                show Brings Try.prog (fun v w' => Turned (fun _ => False) W w' ∧ v = .pointer (some ⟨B0, 3, none⟩)) _
                simp only [execOp, Act.eval, h1]
                go_simp
                try exact ⟨Turned.refl _ _, rfl⟩
            case s3 =>
              refine fun hs hle => stepG_free [21] [] (by kernel_rfl) rfl ?_
              · intro ac W hT hI hO
                have hle : hs.length ≤ 0 := hle
                have h21 : ac.tmps.getD 21 undef = .pointer (some ⟨B0, 3, none⟩) := hI 21 (by simp)
                show Brings Try.prog (fun v w' => Turned (fun _ => False) W w' ∧ v = .slice (some ⟨b, o, none⟩) t.args.length cd) _
                have hT0 : Turned (fun _ => False) wr W := own_nil (by omega) hT; have e3 := hT0.cell0 k3; have g0 := hT0.cell0 c0; have g1 := hT0.cell0 c1; have g2 := hT0.cell0 c2; have g3 := hT0.cell0 c3
                simp only [execOp, Act.eval, h21]
                go_simp
                exact ⟨Turned.refl _ _, rfl⟩
            case s4 =>
              refine fun hs hle => stepG_free [] [4] (by kernel_rfl) rfl ?_
              · intro ac W hT hI hO
                have hle : hs.length ≤ 0 := hle
                have h4 : ac.tmps.getD 4 undef = .int .i64 (j : Int) := hO 4 (by simp)
                show Brings Try.prog (fun v w' => Turned (fun _ => False) W w' ∧ v = .int .i64 (j : Int)) _
                simp only [execOp, Act.eval, h4]
                go_simp
                try exact ⟨Turned.refl _ _, rfl⟩
            case s5 =>
              refine fun hs hle => stepG_free [22, 23] [] (by kernel_rfl) rfl ?_
              · intro ac W hT hI hO
                have hle : hs.length ≤ 0 := hle
                have h22 : ac.tmps.getD 22 undef = .slice (some ⟨b, o, none⟩) t.args.length cd := hI 22 (by simp)
                have h23 : ac.tmps.getD 23 undef = .int .i64 (j : Int) := hI 23 (by simp)
                show Brings Try.prog (fun v w' => Turned (fun _ => False) W w' ∧ v = .pointer (some ⟨b, o + j * 4, none⟩)) _
                simp only [execOp, Act.eval, h22, h23]
                go_simp
                try rw [if_pos (by omega)]
                try exact ⟨Turned.refl _ _, rfl⟩
            case s6 =>
              refine fun hs hle => stepG_free [24] [] (by kernel_rfl) rfl ?_
              · intro ac W hT hI hO
                have hle : hs.length ≤ 0 := hle
                have h24 : ac.tmps.getD 24 undef = .pointer (some ⟨b, o + j * 4, none⟩) := hI 24 (by simp)
                show Brings Try.prog (fun v w' => Turned (fun _ => False) W w' ∧ v = .agg #[.int .i64 x.kind, .int .i64 x.n, .string x.name, .slice x.at_.1 x.args.length x.at_.2]) _
                have hT0 : Turned (fun _ => False) wr W := own_nil (by omega) hT; have e3 := hT0.cell0 k3; have g0 := hT0.cell0 c0; have g1 := hT0.cell0 c1; have g2 := hT0.cell0 c2; have g3 := hT0.cell0 c3
                simp only [execOp, Act.eval, h24]
                go_simp
                exact ⟨Turned.refl _ _, rfl⟩
            case s7 =>
              refine fun hs hlen => stepG_free [25] [] (by kernel_rfl) rfl ?_
              · intro ac W hT hI hO
                have h25 : ac.tmps.getD 25 undef = .agg #[.int .i64 x.kind, .int .i64 x.n, .string x.name, .slice x.at_.1 x.args.length x.at_.2] := hI 25 (by simp)
                show Brings Try.prog (fun v w' => OwnS N B2 t x w1 j us a c wr (hs ++ [v]) w') _
                obtain rfl : hs = [] := List.eq_nil_of_length_eq_zero hlen
                replace hT : Turned (fun _ => False) wr W := hT
                simp only [execOp, Act.eval, h25]
                go_simp
                show Calls Try.prog 116 _ W _
                (with_reducible refine (HCX.out W hT).mono ?_)
                rintro e w' ⟨u, rfl, hb, hu, T'⟩
                exact ⟨_, rfl, hT.trans T', u, rfl, hb, hu.mono (fun k hk h => Nat.le_trans hT.size h)⟩
            case s8 =>
              refine fun hs hlen => stepG_free [26] [] (by kernel_rfl) rfl ?_
              · intro ac W hT hI hO
                have h26 : hs[0]? = some (ac.tmps.getD 26 undef) := hI 26 (by simp)
                show Brings Try.prog (fun v w' => OwnS N B2 t x w1 j us a c wr (hs ++ [v]) w') _
                obtain ⟨uv, rfl⟩ := List.length_eq_one_iff.1 hlen
                obtain ⟨hT1, u, rfl, hb, hu⟩ := hT
                replace h26 : ac.tmps.getD 26 undef = u.val := by simpa using h26.symm
                rw [LT.val_eq] at h26
                have h26' : ac.tmps[26]?.getD undef = .agg #[.int .i64 u.kind, .int .i64 u.n, .string u.name, .slice u.at_.1 u.args.length u.at_.2] := by rw [← Array.getD_eq_getD_getElem?]; exact h26
                simp only [execOp, Act.eval, h26]
                go_simp
                have hnew := heap_alloc_new W (.cells #[.int .i64 u.kind, .int .i64 u.n, .string u.name, .slice u.at_.1 u.args.length u.at_.2] 41)
                refine ⟨hT1.alloc _, u, W.heap.size, rfl, hb, hu.turned0 ((Turned.refl _ W).alloc _), ?_⟩
                rw [LT.cells_eq]
                exact hnew
            case s9 =>
              refine fun hs hlen => stepG_free [20, 27] [] (by kernel_rfl) rfl ?_
              · intro ac W hT hI hO
                have h20 : ac.tmps.getD 20 undef = .slice a j c := hI 20 (by simp)
                have h27 : hs[1]? = some (ac.tmps.getD 27 undef) := hI 27 (by simp)
                show Brings Try.prog (fun v w' => OwnS N B2 t x w1 j us a c wr (hs ++ [v]) w') _
                obtain ⟨uv, sv, rfl⟩ := list2' hlen
                obtain ⟨hT1, u, g, rfl, hb, hu, hg⟩ := hT
                replace h27 : ac.tmps.getD 27 undef = .slice (some ⟨g, 0, none⟩) 1 1 := by simpa using h27.symm
                refine brings_append (.tmp 20) (.tmp 27) 39 rfl 41 i0 zeroR 4 56 Try.underlying39 hi0 hz0 hz1 hz2 rfl (by decide) _ _ _ h20 (HOI.out.row.turned0 hT1) ⟨g, 0, none⟩ 1 1 u.cells h27 (LT.cells_length u) (news_block hg) (LT.cells_one u) (by omega) (by unfold maxLen; omega) (by omega) ?_
                intro g2 cap2 w2 hrow2 T2 hl2
                have hgw : some g2 = (Value.slice a j c).ownBlock ∨ wr.heap.size ≤ g2 := by
                  rcases hl2 with e | e
                  · exact .inl e
                  · have := hT1.size; exact .inr (by omega)
                refine ⟨u, g2, cap2, rfl, hb, hrow2, ?_, (hT1.mono (fun _ _ f => f.elim)).trans T2, hgw⟩
                refine hu.turned T2 (fun k hk h e => ?_) (fun k hk h => ⟨h, fun e => ?_⟩)
                · have := HOI.out.row.lt k e; omega
                · subst e
                  rcases hl2 with e | e
                  · have := HOI.out.row.lt k e.symm; omega
                  · omega
            case s10 =>
              refine fun hs hle => stepG_free [] [3] (by kernel_rfl) rfl ?_
              · intro ac W hT hI hO
                have h3 : ac.tmps.getD 3 undef = .pointer (some ⟨B2, 0, none⟩) := hO 3 (by simp)
                show Brings Try.prog (fun v w' => Turned (fun _ => False) W w' ∧ v = .pointer (some ⟨B2, 3, none⟩)) _
                simp only [execOp, Act.eval, h3]
                go_simp
                try exact ⟨Turned.refl _ _, rfl⟩
            case s11 =>
              refine fun hs hlen => stepG_free [29, 28] [] (by kernel_rfl) rfl ?_
              · intro ac W hT hI hO
                have h29 : ac.tmps.getD 29 undef = .pointer (some ⟨B2, 3, none⟩) := hI 29 (by simp)
                have h28 : hs[2]? = some (ac.tmps.getD 28 undef) := hI 28 (by simp)
                show Brings Try.prog (fun v w' => OwnS N B2 t x w1 j us a c wr (hs ++ [v]) w') _
                obtain ⟨uv, sv, av, rfl⟩ := list3' hlen
                obtain ⟨u, g, cap, rfl, hb, hrow, hu, hT2, hg⟩ := hT
                replace h28 : ac.tmps.getD 28 undef = .slice (some ⟨g, 0, none⟩) (j + 1) cap := by simpa using h28.symm
                have hbl := (hT2.block B2 (Array.getElem?_eq_some_iff.1 HOI.out.blk).1 (fun e => by have := HOI.out.own B2 e; have := HBN.out.1; omega)).trans HOI.out.blk
                obtain ⟨_, _, _, d3, _, _, _, f3⟩ := cells4 hbl
                simp only [execOp, Act.eval, h29, h28]
                go_simp
                exact ⟨_, _, _, own_close HBN.out.1 HBN.out.2.1 HOI.out HX.out hb hrow hu hT2 hg HBN.out.2.2⟩
          case hQ =>
            intro hs vs w2 hlen hR hV
            obtain ⟨e1, e2, e3, e4, rfl⟩ : ∃ a b c d, hs = [a, b, c, d] := list4' hlen
            obtain ⟨us', a', c', hI⟩ := hR
            have HI' := Lib.hid hI
            simp only [List.foldl_cons, List.foldl_nil, List.setIfInBounds_toArray, List.set_cons_zero, List.set_cons_succ]
            clear hV hlen hI
            go_wp2_with fail
            go_roundg (gk - 1)
            case measure => have := HG.out; omega
            case rel => exact ⟨j + 1, show _ = _ by have := HG.out; omega, by omega, by go_num, us', a', c', HI'⟩
      · obtain rfl : j = t.args.length := by omega
        have hb1 := (HOI.out.turned.block B1 (Array.getElem?_eq_some_iff.1 H3.out.2.2.2.2).1 (fun e => by have := HE.out; omega)).trans H3.out.2.2.2.2
        obtain ⟨d0, d1, d2, d3, f0, f1, f2, f3⟩ := cells4 hb1
        obtain ⟨g0, g1, g2, g3, _⟩ := cells4 HOI.out.blk
        have HB1 := Lib.hid hb1
        clear hb1
        go_wp2_with fail
        have hset := set4 (a' := .int .i64 t.kind) (b' := .int .i64 t.n) (c' := .string t.name) (d' := .slice a t.args.length c) HB1.out
        have hge : w.heap.size ≤ B1 := by have := HE.out; omega
        have T4 := turned4 (a := .int .i64 t.kind) (b := .int .i64 t.n) (c := .string t.name) (d := .slice a t.args.length c) HTw.out hge
        refine bodyPost_ret (v := .agg #[.int .i64 t.kind, .int .i64 t.n, .string t.name, .slice a t.args.length c]) (results_cell_row Try.results116 _ _ B1 41 _ (0, 0) _ rfl hset Try.underlying41 rfl (by kernel_rfl)) rfl ?_
        have hne : ∀ q, (Value.slice a t.args.length c).ownBlock ≠ some (Addr.block ⟨B1, q, none⟩) := fun q e => by have h1 : N ≤ B1 := HOI.out.own _ e; have := HE.out; omega
        have hrow := ((((HOI.out.row.setCell (hne 0) (.int .i64 t.kind)).setCell (hne 1) (.int .i64 t.n)).setCell (hne 2) (.string t.name)).setCell (hne 3) (.slice a t.args.length c))
        have Tq : Turned (fun k => k = B1) wr _ := ((((Turned.refl (fun k => k = B1) wr).setCell (p := ⟨B1, 0, none⟩) (.inr rfl) (.int .i64 t.kind)).setCell (p := ⟨B1, 1, none⟩) (.inr rfl) (.int .i64 t.n)).setCell (p := ⟨B1, 2, none⟩) (.inr rfl) (.string t.name)).setCell (p := ⟨B1, 3, none⟩) (.inr rfl) (.slice a t.args.length c)
        have hins := HOI.out.ins.turned (q := fun k => w.heap.size ≤ k) Tq (fun k _ hk e => by have := HE.out; omega) (fun k _ hk => by have := HE.out; omega)
        obtain ⟨e1, e2⟩ := LT.Sl.of_row (p := fun k => w.heap.size ≤ k) hrow (fun k hk => by have := HOI.out.own k hk; have := HE.out; omega) hins
        refine ⟨.mk t.kind t.n t.name (a, c) us, ?_, ?_, e2.in_ HIN.out.kind HIN.out.n HIN.out.name, T4⟩
        · show _ = Ending.returned (LT.val (.mk t.kind t.n t.name (a, c) us))
          rw [LT.val_eq]
          show _ = Ending.returned (.agg #[.int .i64 t.kind, .int .i64 t.n, .string t.name, .slice a us.length c])
          rw [HUL.out]
        · rw [mk_bare t, Tm.bare, HOI.out.bares, List.take_length]
end Go.Proofs.Ytoihjobdfjajfaa

/- Pick: the places of the keys that may fit. -/
namespace Go.Proofs.Ytoihjobdfjajfaa
set_option linter.unusedVariables false
set_option linter.unusedSimpArgs false
open Go.RowKit

theorem flat4_length {α : Type} (f : α → List Value) (hf : ∀ x, (f x).length = 4) (l : List α) : (l.flatMap f).length = l.length * 4 := by
  induction l with
  | nil => rfl
  | cons x l ih => rw [List.flatMap_cons, List.length_append, hf, ih, List.length_cons]; omega
theorem flat4_at {α : Type} (f : α → List Value) (hf : ∀ x, (f x).length = 4) {l : List α} {i : Nat} {x : α} (h : l[i]? = some x) (j : Nat) (hj : j < 4) : (l.flatMap f)[i * 4 + j]? = (f x)[j]? := by
  induction l generalizing i with
  | nil => simp at h
  | cons y l ih =>
    rw [List.flatMap_cons]
    cases i with
    | zero =>
      simp at h; subst h
      rw [List.getElem?_append_left (by rw [hf]; omega), Nat.zero_mul, Nat.zero_add]
    | succ i =>
      simp at h
      rw [List.getElem?_append_right (by rw [hf]; omega), hf]
      have : (i + 1) * 4 + j - 4 = i * 4 + j := by omega
      rw [this]
      exact ih h
def Key.cells (k : Key) : List Value := [.int .i64 k.kind, .int .i64 k.n, .string k.name, .int .i64 k.arity]
/-- A slice of keys that came in from anywhere. -/
structure KSl (w : World) (a : Option Addr) (c : Nat) (ks : List Key) : Prop where
  none_ : a = none → ks.length = 0 ∧ c = 0
  lies : 0 < ks.length → ∃ b o, a = some ⟨b, o, none⟩ ∧ ∀ j u, (ks.flatMap Key.cells)[j]? = some u → w.cell? ⟨b, o + j, none⟩ = some u
  cap : ks.length ≤ c
  max : c ≤ 9223372036854775807
theorem KSl.turned {S : Nat → Prop} {w w' : World} {a : Option Addr} {c : Nat} {ks : List Key} (h : KSl w a c ks) (ht : Turned S w w') (hS : ∀ b o, a = some ⟨b, o, none⟩ → ¬ S b) : KSl w' a c ks := by
  refine ⟨h.none_, fun hp => ?_, h.cap, h.max⟩
  obtain ⟨b, o, he, hc⟩ := h.lies hp
  exact ⟨b, o, he, fun j u hu => ht.cell (hc j u hu) (hS b o he)⟩
theorem KSl.turned0 {w w' : World} {a : Option Addr} {c : Nat} {ks : List Key} (h : KSl w a c ks) (ht : Turned (fun _ => False) w w') : KSl w' a c ks := h.turned ht (fun _ _ _ f => f)
theorem KSl.at {w : World} {b o c : Nat} {ks : List Key} (h : KSl w (some ⟨b, o, none⟩) c ks) {i : Nat} {x : Key} (hi : ks[i]? = some x) :
    w.cell? ⟨b, o + i * 4, none⟩ = some (.int .i64 x.kind) ∧ w.cell? ⟨b, o + i * 4 + 1, none⟩ = some (.int .i64 x.n) ∧ w.cell? ⟨b, o + i * 4 + 2, none⟩ = some (.string x.name) ∧ w.cell? ⟨b, o + i * 4 + 3, none⟩ = some (.int .i64 x.arity) := by
  obtain ⟨b', o', e, hc⟩ := h.lies (by have := (List.getElem?_eq_some_iff.1 hi).1; omega)
  injection e with e
  injection e with e1 e2
  subst e1 e2
  have hf : ∀ x : Key, x.cells.length = 4 := fun _ => rfl
  refine ⟨hc _ _ ?_, ?_, ?_, ?_⟩
  rotate_left
  all_goals try (rw [Nat.add_assoc]; refine hc _ _ ?_)
  rotate_right
  · have := flat4_at Key.cells hf hi 0 (by omega); rw [Nat.add_zero] at this; rw [this]; rfl
  · rw [flat4_at Key.cells hf hi 1 (by omega)]; rfl
  · rw [flat4_at Key.cells hf hi 2 (by omega)]; rfl
  · rw [flat4_at Key.cells hf hi 3 (by omega)]; rfl

/-- The places of the keys that may fit. -/
def pickB (k : Key) : List Key → Nat → List Int
  | [], _ => []
  | x :: l, i => if mayB x k then (i : Int) :: pickB k l (i + 1) else pickB k l (i + 1)
theorem pickB_snoc (k : Key) (l : List Key) (x : Key) (i : Nat) : pickB k (l ++ [x]) i = pickB k l i ++ (if mayB x k then [((i + l.length : Nat) : Int)] else []) := by
  induction l generalizing i with
  | nil => simp only [List.nil_append, pickB, List.length_nil, Nat.add_zero]
  | cons y l ih =>
    simp only [List.cons_append, pickB, List.length_cons]
    have : i + (l.length + 1) = i + 1 + l.length := by omega
    rw [ih, this]
    split <;> simp
theorem pickB_le (k : Key) (l : List Key) (i : Nat) : (pickB k l i).length ≤ l.length := by
  induction l generalizing i with
  | nil => simp [pickB]
  | cons y l ih => simp only [pickB, List.length_cons]; have := ih (i + 1); split <;> simp <;> omega
theorem infoN : (Try.prog.info? 3).map (fun i => (i.zero, i.size, i.bytes)) = some (some (.int .i64 0), 1, 8) := by kernel_rfl

/-- At the head of Pick's loop. -/
def PickR (w0 : World) (k : Key) (ks : List Key) (g : Nat) (v i : Value) (wr : World) : Prop :=
  ∃ j : Nat, Hid (j + g = ks.length) ∧ j ≤ ks.length ∧ i = .int .i64 j ∧ Row wr 3 1 v (pickB k (ks.take j) 0).length ((pickB k (ks.take j) 0).map (Value.int .i64)) ∧ (∀ b, v.ownBlock = some b → w0.heap.size ≤ b) ∧ Turned (fun _ => False) w0 wr

set_option maxRecDepth 100000 in
set_option maxHeartbeats 1600000 in
theorem pick60 {w : World} {a : Option Addr} {c : Nat} {ks : List Key} (k : Key) (h : KSl w a c ks) (hn : ks.length ≤ 65536) :
    Calls Try.prog 60 #[.slice a ks.length c, k.val] w fun e w' => ∃ v, e = .returned v ∧ Row w' 3 1 v (pickB k ks 0).length ((pickB k ks 0).map (Value.int .i64)) ∧ (∀ b, v.ownBlock = some b → w.heap.size ≤ b) ∧ Turned (fun _ => False) w w' := by
  have T1 := (Turned.refl (fun _ => False) w).alloc (.cells #[.int .i64 k.kind, .int .i64 k.n, .string k.name, .int .i64 k.arity] 35)
  have hbx := fun W (h : Turned (fun _ => False) (w.alloc (.cells #[.int .i64 k.kind, .int .i64 k.n, .string k.name, .int .i64 k.arity] 35)) W) => box4 h
  have HT := Lib.hid T1
  have H := Lib.hid h
  have HB := Lib.hid hbx
  have hcap := h.cap
  have hmax := h.max
  clear T1 h hbx
  unfold Key.val
  go_enter Try.func60, Try.ntmps60
  go_wp2_with fail
  revert HT HB
  generalize w.alloc (.cells #[.int .i64 k.kind, .int .i64 k.n, .string k.name, .int .i64 k.arity] 35) = w1
  intro HT HB
  have hs1 : w.heap.size < w1.heap.size := (HB.out w1 (Turned.refl _ _)).2
  go_loopg [5, 10] ks.length (fun g v i wr => PickR w1 k ks g v i wr)
  case atStart => exact ⟨0, Nat.zero_add _, Nat.zero_le _, rfl, Row.nil _ _ _, fun b hb => by simp [Value.ownBlock] at hb, Turned.refl _ _⟩
  case round =>
    obtain ⟨j, HG, hj, rfl, hrow, hown, Tr⟩ := hrel
    obtain ⟨wo, rfl⟩ : ∃ wo : World, wo = wr := ⟨_, rfl⟩
    obtain ⟨v3, cv, rfl⟩ := hrow.shape
    have hpl := pickB_le k (ks.take j) 0
    have hpl2 : (pickB k (ks.take j) 0).length ≤ 65536 := by rw [List.length_take] at hpl; omega
    have HROW := Lib.hid hrow
    clear hrow hpl
    by_cases hjl : j < ks.length
    · have hx : ks[j]? = some ks[j] := List.getElem?_eq_getElem hjl
      obtain ⟨x, hxe⟩ : ∃ x, x = ks[j] := ⟨_, rfl⟩
      rw [← hxe] at hx
      clear hxe
      obtain ⟨b, o, rfl, _⟩ := H.out.lies (by omega)
      obtain ⟨c0, c1, c2, c3⟩ := (H.out.turned0 (HT.out.trans Tr)).at hx
      have HX := Lib.hid hx
      have hmay := may43 x k
      unfold Key.val at hmay
      have HM := Lib.hid hmay
      obtain ⟨hb0, hlt⟩ := HB.out _ Tr
      obtain ⟨d0, d1, d2, d3, _⟩ := cells4 hb0
      have HB0 := Lib.hid hb0
      clear hx hmay hb0
      have hts : (ks.take (j + 1)) = ks.take j ++ [x] := take_snoc' _ _ _ HX.out
      have hps := pickB_snoc k (ks.take j) x 0
      rw [← hts, List.length_take, Nat.zero_add, Nat.min_eq_left (by omega)] at hps
      have HPS := Lib.hid hps
      clear hts hps
      cases hm : mayB x k with
      | true =>
        rw [hm] at HM
        obtain ⟨i0, hi0, hz0, hz1, hz2⟩ := info_parts infoN
        have HMB := Lib.hid hm
        clear hm
        go_wp2_with (first
          | (go_at_call 43; refine (HM.out _).mono ?_; rintro e w5 ⟨rfl, T5⟩; have hrow5 := HROW.out.turned0 (((Turned.refl _ wo).alloc _).trans T5))
          | (at_builtin; refine append_some _ rfl _ _ 61 rfl 3 i0 (.int .i64 0) 1 8 Try.underlying61 hi0 hz0 hz1 hz2 rfl (by decide) _ _ _ rfl (hrow5.alloc _) ⟨w5.heap.size, 0, none⟩ 1 1 [.int .i64 j] rfl rfl (cell_one_new _ _ _) (by simp [Value.oneCell']) (by omega) (by unfold maxLen; omega) (by omega) ?_; intro g6 cap6 w6 hown6 T6 hloc6))
        go_roundg (gk - 1)
        case measure => have := HG.out; omega
        case rel =>
          have hs5 := T5.size
          have hs0 := Tr.size
          simp at hs5
          refine ⟨j + 1, show _ = _ by have := HG.out; omega, by omega, by go_num, ?_, fun b' hb' => ?_, ?_⟩
          · rw [HPS.out, HMB.out, if_pos rfl, List.length_append, List.length_singleton, List.map_append]
            exact hown6
          · rcases hloc6 with e | e
            · exact hown b' (e.symm.trans hb')
            · simp [Value.ownBlock] at hb'; simp at e; omega
          · refine (Tr.trans (((Turned.refl _ wo).alloc _).trans (T5.trans ((Turned.refl _ w5).alloc _)))).step T6 (fun i hi h3 => ?_)
            have := hown i h3
            omega
      | false =>
        rw [hm] at HM
        have HMB := Lib.hid hm
        clear hm
        go_wp2_with (first
          | (go_at_call 43; refine (HM.out _).mono ?_; rintro e w5 ⟨rfl, T5⟩))
        go_roundg (gk - 1)
        case measure => have := HG.out; omega
        case rel =>
          refine ⟨j + 1, show _ = _ by have := HG.out; omega, by omega, by go_num, ?_, hown, Tr.trans (((Turned.refl _ wo).alloc _).trans T5)⟩
          rw [HPS.out, HMB.out]
          simp
          exact HROW.out.turned0 (((Turned.refl _ wo).alloc _).trans T5)
    · have hje : j = ks.length := by omega
      go_wp2_with fail
      go_ret
      have hr := HROW.out
      rw [hje, List.take_length] at hr
      refine ⟨_, rfl, ?_, fun b hb => ?_, HT.out.trans Tr⟩
      · rw [hje]; simpa using hr
      · have := hown b hb; omega
end Go.Proofs.Ytoihjobdfjajfaa

/- ints; sizarlaw16's awake. -/
namespace Go.Proofs.Ytoihjobdfjajfaa
set_option linter.unusedVariables false
set_option linter.unusedSimpArgs false
open Go.RowKit
attribute [local go_sem ↓] Go.wp_at_zero Go.wp_at_succ

set_option maxHeartbeats 800000 in
theorem ints58 {w : World} {v1 v2 : Value} {xs ys : List Int} (h1 : Row w 3 1 v1 xs.length (xs.map (Value.int .i64))) (h2 : Row w 3 1 v2 ys.length (ys.map (Value.int .i64))) :
    Calls Try.prog 58 #[v1, v2] w fun e w' => e = .returned (.bool (decide (xs = ys))) ∧ Turned (fun _ => False) w w' := by
  obtain ⟨a1, c1, rfl⟩ := h1.shape
  obtain ⟨a2, c2, rfl⟩ := h2.shape
  obtain ⟨m1, m2⟩ := h1.max
  obtain ⟨m3, m4⟩ := h2.max
  by_cases hl : xs.length = ys.length
  · have hlb : ((xs.length : Int) != (ys.length : Int)) = false := by simp; omega
    have HL := Lib.hid hl
    have hl1 : xs.length ≤ ys.length := by omega
    have hl2 : ys.length ≤ xs.length := by omega
    clear hl
    have H1 := Lib.hid h1
    have H2 := Lib.hid h2
    clear h1 h2
    go_enter Try.func58, Try.ntmps58
    go_wp2_with fail
    go_loopg [5] xs.length (fun g i wr => ∃ j : Nat, Hid (j + g = xs.length) ∧ j ≤ xs.length ∧ i = .int .i64 j ∧ Hid (xs.take j = ys.take j) ∧ Turned (fun _ => False) w wr)
    case atStart => exact ⟨0, Nat.zero_add _, Nat.zero_le _, rfl, rfl, Turned.refl _ _⟩
    case round =>
      obtain ⟨j, HG, hj, rfl, HE, Tr⟩ := hrel
      by_cases hjl : j < xs.length
      · have hx : xs[j]? = some xs[j] := List.getElem?_eq_getElem hjl
        have hy : ys[j]? = some (ys[j]'(by omega)) := List.getElem?_eq_getElem (by omega)
        obtain ⟨x, hxe⟩ : ∃ x, x = xs[j] := ⟨_, rfl⟩
        obtain ⟨y, hye⟩ : ∃ y, y = ys[j]'(by omega) := ⟨_, rfl⟩
        rw [← hxe] at hx
        rw [← hye] at hy
        obtain ⟨g1, rfl⟩ := H1.out.addr_pos (by omega)
        obtain ⟨g2, rfl⟩ := H2.out.addr_pos (by omega)
        have k1 := (H1.out.turned0 Tr).int_at hx
        have k2 := (H2.out.turned0 Tr).int_at hy
        have HX := Lib.hid hx
        have HY := Lib.hid hy
        clear hxe hye hx hy
        have z1 : (0 : Int) ≤ (j : Int) := by omega
        have z2 : (j : Int) < (ys.length : Int) := by omega
        by_cases hxy : x = y
        · subst hxy
          have hne : (x != x) = false := by simp
          go_wp2_with fail
          go_quiet (fail)
          go_wp2_with fail
          go_roundg (gk - 1)
          case measure => have := HG.out; omega
          case rel =>
            refine ⟨j + 1, show _ = _ by have := HG.out; omega, by omega, by go_num, ?_, Tr.trans ((Turned.refl _ _).drewN _)⟩
            show _ = _
            rw [take_snoc' _ _ _ HX.out, take_snoc' _ _ _ HY.out, HE.out]
        · have hne : (x != y) = true := by simp [hxy]
          have HN := Lib.hid hxy
          clear hxy
          go_wp2_with fail
          go_quiet (fail)
          go_wp2_with fail
          go_ret
          refine ⟨ret_bool ?_, Tr.trans ((Turned.refl _ _).drewN _)⟩
          symm
          rw [decide_eq_false_iff_not]
          intro e
          have hx := HX.out
          rw [e, HY.out] at hx
          injection hx with hx
          exact HN.out hx.symm
      · go_wp2_with fail
        go_ret
        refine ⟨ret_bool ?_, Tr⟩
        symm
        rw [decide_eq_true_eq]
        have h := HE.out
        rwa [List.take_of_length_le (by omega), List.take_of_length_le (by omega)] at h
  · have hlb : ((xs.length : Int) != (ys.length : Int)) = true := by simp; omega
    have HL := Lib.hid hl
    clear hl h1 h2
    go_enter Try.func58, Try.ntmps58
    go_wp2_with fail
    go_ret
    refine ⟨ret_bool ?_, Turned.refl _ _⟩
    symm
    rw [decide_eq_false_iff_not]
    intro e
    exact HL.out (by rw [e])

def kA : Key := ⟨2, 0, ⟨#[97]⟩, 0⟩
def kB : Key := ⟨2, 0, ⟨#[98]⟩, 0⟩
theorem pick_aw : pickB kA [Key.zero, kA, kB] 0 = [0, 1] := by decide
theorem keyOf_aw (a5 : Option Addr) (c5 : Nat) : keyOf (α := Option Addr × Nat) (.mk 2 0 ⟨#[112]⟩ (a5, c5) [leaf 2 0 ⟨#[97]⟩]) = kA := by kernel_rfl
theorem ofAw {w : World} {a5 : Option Addr} {c5 : Nat} (h : LT.In (fun _ => True) w (.mk 2 0 ⟨#[112]⟩ (a5, c5) [leaf 2 0 ⟨#[97]⟩])) :
    Calls Try.prog 42 #[.agg #[.int .i64 2, .int .i64 0, .string ⟨#[112]⟩, .slice a5 1 c5]] w fun e w' => e = .returned (.agg #[.int .i64 2, .int .i64 0, .string ⟨#[97]⟩, .int .i64 0]) ∧ Turned (fun _ => False) w w' := by
  refine (of42 (t := .mk 2 0 ⟨#[112]⟩ (a5, c5) [leaf 2 0 ⟨#[97]⟩]) h (slim_mk (by simp) (fun x hx => by rw [List.mem_singleton.1 hx]; intro y hy; simp [leaf, Tm.flat, Tm.flats] at hy; subst hy; simp [Tm.args]))).mono ?_
  rintro e w' ⟨rfl, ht⟩
  rw [keyOf_aw]
  exact ⟨rfl, ht⟩
set_option maxRecDepth 100000 in
set_option maxHeartbeats 3200000 in
theorem awake40 (w : World) : Calls Try.prog 40 #[] w fun e w' => e = .returned (.bool true) ∧ Turned (fun _ => False) w w' := by
  have hk : KSl (w.alloc (.cells #[.int .i64 0, .int .i64 0, .string ⟨#[]⟩, .int .i64 0, .int .i64 2, .int .i64 0, .string ⟨#[97]⟩, .int .i64 0, .int .i64 2, .int .i64 0, .string ⟨#[98]⟩, .int .i64 0] 35)) (some ⟨w.heap.size, 0, none⟩) 3 [Key.zero, kA, kB] := by
    refine ⟨(fun e => by cases e), fun _ => ⟨_, _, rfl, fun j u hu => ?_⟩, Nat.le_refl _, by simp⟩
    rw [Nat.zero_add, boxed]
    have : (#[.int .i64 0, .int .i64 0, .string ⟨#[]⟩, .int .i64 0, .int .i64 2, .int .i64 0, .string ⟨#[97]⟩, .int .i64 0, .int .i64 2, .int .i64 0, .string ⟨#[98]⟩, .int .i64 0] : Array Value)[j]? = ([Key.zero, kA, kB].flatMap Key.cells)[j]? := by
      rw [← Array.getElem?_toList]; rfl
    rw [this, hu]
  have HK := Lib.hid hk
  have T0 := (Turned.refl (fun _ => False) w).alloc (.cells #[.int .i64 0, .int .i64 0, .string ⟨#[]⟩, .int .i64 0, .int .i64 2, .int .i64 0, .string ⟨#[97]⟩, .int .i64 0, .int .i64 2, .int .i64 0, .string ⟨#[98]⟩, .int .i64 0] 35)
  have HT0 := Lib.hid T0
  clear hk T0
  go_enter Try.func40, Try.ntmps40
  go_wp2_with fail
  revert HK HT0
  generalize w.alloc (.cells #[.int .i64 0, .int .i64 0, .string ⟨#[]⟩, .int .i64 0, .int .i64 2, .int .i64 0, .string ⟨#[97]⟩, .int .i64 0, .int .i64 2, .int .i64 0, .string ⟨#[98]⟩, .int .i64 0] 35) = w1
  intro HK HT0
  have hkeep : ∀ W, Turned (fun _ => False) w1 W → (Turned (fun _ => False) w1 W ∧ W.cell? ⟨w.heap.size, 4, none⟩ = some (.int .i64 2) ∧ W.cell? ⟨w.heap.size, 5, none⟩ = some (.int .i64 0) ∧ W.cell? ⟨w.heap.size, 6, none⟩ = some (.string ⟨#[97]⟩) ∧ W.cell? ⟨w.heap.size, 7, none⟩ = some (.int .i64 0)) := by
    intro W h
    have := (HK.out.turned0 h).at (i := 1) (x := kA) rfl
    simp only [Nat.zero_add, Nat.one_mul, Nat.reduceAdd] at this
    exact ⟨h, this⟩
  have HKP := Lib.hid hkeep
  clear hkeep
  have hq : ∀ W, (binOp .eql 35 (.agg #[.int .i64 2, .int .i64 0, .string ⟨#[97]⟩, .int .i64 0]) (.agg #[.int .i64 2, .int .i64 0, .string ⟨#[97]⟩, .int .i64 0])).run Try.prog W = .ok (.bool true) W := fun W => by have := key_eql kA kA W; simpa [kA] using this
  go_region_held3 (fun W => Turned (fun _ => False) w1 W ∧ W.cell? ⟨w.heap.size, 4, none⟩ = some (.int .i64 2) ∧ W.cell? ⟨w.heap.size, 5, none⟩ = some (.int .i64 0) ∧ W.cell? ⟨w.heap.size, 6, none⟩ = some (.string ⟨#[97]⟩) ∧ W.cell? ⟨w.heap.size, 7, none⟩ = some (.int .i64 0))
    (first
      | exact HKP.out _ (Turned.refl _ _).drew
      | exact HKP.out _ ((Turned.refl _ _).drew.alloc _)
      | exact HKP.out _ ((show Turned (fun _ => False) w1 _ ∧ _ from by assumption).1.alloc _)
      | exact HKP.out _ (Turned.trans (show Turned (fun _ => False) w1 _ ∧ _ from by assumption).1 T6)
      | exact HKP.out _ (Turned.trans (show Turned (fun _ => False) w1 _ ∧ _ from by assumption).1 T5)
      | exact HKP.out _ (Turned.trans (show Turned (fun _ => False) w1 _ ∧ _ from by assumption).1 T4)
      | exact HKP.out _ (Turned.trans (show Turned (fun _ => False) w1 _ ∧ _ from by assumption).1 T3)
      | exact HKP.out _ (Turned.trans (show Turned (fun _ => False) w1 _ ∧ _ from by assumption).1 T2))
    (first
      | (go_at_call 60; refine (pick60 (ks := [Key.zero, kA, kB]) kA (HK.out.turned0 (by first | exact (Turned.refl _ _).drew | exact (Turned.refl _ _).drew.alloc _)) (by decide)).mono ?_; rintro e w2 ⟨v2, rfl, r2, n2, T2⟩)
      | (go_at_call 58; refine (ints58 (xs := [0, 1]) (ys := [0, 1]) (show Row _ 3 1 v2 2 [.int .i64 0, .int .i64 1] from by first | exact r2.alloc _ | exact r2) (show Row _ 3 1 _ 2 [.int .i64 0, .int .i64 1] from by first | exact Row.made _ 3 1 #[.int .i64 0, .int .i64 1] 2 rfl (by decide) | exact (Row.made w1.drew 3 1 #[.int .i64 0, .int .i64 1] 2 rfl (by decide)).turned0 T2)).mono ?_; rintro e w3 ⟨rfl, T3⟩)
      | (go_at_call 63; refine (atomV ⟨#[97]⟩ (by unfold maxLen; decide) _).mono ?_; rintro e w4 ⟨rfl, i4, T4⟩)
      | (go_at_call 37; refine (compV ⟨#[112]⟩ (by unfold maxLen; decide) 1 (by decide) rfl (sl_made (l := [leaf 2 0 ⟨#[97]⟩]) ⟨i4, trivial⟩ 1 (by decide) rfl _ rfl)).mono ?_; rintro e w5 ⟨a5, c5, rfl, i5, T5⟩)
      | (go_at_call 42; refine (ofAw i5).mono ?_; rintro e w6 ⟨rfl, T6⟩))
  all_goals
    go_wp2_with fail
    go_ret
    exact ⟨rfl, HT0.out.trans (show Turned (fun _ => False) w1 w6 ∧ _ from by assumption).1⟩
end Go.Proofs.Ytoihjobdfjajfaa
