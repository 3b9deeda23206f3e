/- Merged texts: MA8, MB1, MB2, MB3, MB4, MB5, CB5, BX2, CB6, CB7, CB7T, CB8, CB8T, CB9, CB11, MB6, MB7. -/
import Derived.Test.YtoihjobdfjajfaaCt4
import Derived.Deep.LoopGhost
set_option linter.unusedVariables false
set_option linter.unusedSimpArgs false
namespace Go.Proofs.Ytoihjobdfjajfaa
open Lib (hid)
open Go.RowKit Go.Maps
theorem MRQ.mono {mk mk' : Tm.MS → World → Prop} {st : Tm.MS} {r : Tm.MR} {e : Ending} {w : World} (hm : ∀ s W, mk s W → mk' s W) (h : MRQ mk st r e w) : MRQ mk' st r e w := by
  cases r with
  | go s => exact ⟨h.1, hm _ _ h.2⟩
  | stop E m => obtain ⟨b, s2, h1, h2, h3, h4, h5⟩ := h; exact ⟨b, s2, h1, h2, h3, h4, hm _ _ h5⟩
theorem MRQ.turned0 {mk : Tm.MS → World → Prop} {st : Tm.MS} {r : Tm.MR} {e : Ending} {w w' : World} (hm : ∀ s W W', mk s W → Turned (fun _ => False) W W' → mk s W') (h : MRQ mk st r e w) (T : Turned (fun _ => False) w w') : MRQ mk st r e w' := by
  cases r with
  | go s => exact ⟨h.1, hm _ _ _ h.2 T⟩
  | stop E m => obtain ⟨b, s2, h1, h2, h3, h4, h5⟩ := h; exact ⟨b, s2, h1, h2, h3, h4, hm _ _ _ h5 T⟩
theorem MRQ.shape {mk : Tm.MS → World → Prop} {st : Tm.MS} {r : Tm.MR} {e : Ending} {w : World} (h : MRQ mk st r e w) : ∃ (b : Bool) (E : Int), e = .returned (.tuple #[.bool b, .int .i64 E]) := by
  cases r with
  | go s => exact ⟨_, _, h.1⟩
  | stop E m => obtain ⟨b, s2, h1, _⟩ := h; exact ⟨_, _, h1⟩
theorem bothR_stop {m : Nat} {l tr : Tm.Trail} {x y : Tm Unit} {ok : Bool} {c e : Int} (h : bothR m l x y = (ok, c, e, tr)) (hn : ¬ (ok = true ∧ e = 0)) : ok = false ∧ tr = l := by
  unfold bothR at h
  split at h
  · split at h <;> injection h with h1 h <;> injection h with h2 h <;> injection h with h3 h <;> subst h1 h3 h
    · exact absurd ⟨rfl, rfl⟩ hn
    · exact ⟨rfl, rfl⟩
    · exact ⟨rfl, rfl⟩
  · injection h with h1 h
    injection h with h2 h
    injection h with h3 h
    subst h1 h; exact ⟨rfl, rfl⟩
def OneM (V : Value) (Q : World → Prop) (w0 : World) : List Value → World → Prop
  | [], W => Turned (fun _ => False) w0 W
  | [a], W => a = V ∧ Q W
  | _, _ => False
section
variable {V : Value} {Q : World → Prop} {w0 : World}
theorem OneM.turned0 (hQ : ∀ W W', Q W → Turned (fun _ => False) W W' → Q W') : ∀ (hs : List Value) (w w' : World), OneM V Q w0 hs w → Turned (fun _ => False) w w' → OneM V Q w0 hs w'
  | [], _, _, h, T => Turned.trans h T
  | [_], _, _, h, T => ⟨h.1, hQ _ _ h.2 T⟩
  | _ :: _ :: _, _, _, h, _ => h.elim
theorem OneM.early : ∀ (hs : List Value) (W : World), hs.length ≤ 0 → OneM V Q w0 hs W → Turned (fun _ => False) w0 W
  | [], _, _, h => h
theorem OneM.val : ∀ (hs : List Value) (W : World) {x : Value}, OneM V Q w0 hs W → hs[0]? = some x → x = V
  | [], _, _, _, e => by simp at e
  | [_], _, _, h, e => by simp at e; rw [← e]; exact h.1
  | _ :: _ :: _, _, _, h, _ => h.elim
end
def TieS (t : LT) (b : Bool) (E : Int) (mk : Tm.MS → World → Prop) (st : Tm.MS) (MR : Tm.MR) (w0 : World) : List Value → World → Prop
  | [], W => Turned (fun _ => False) w0 W
  | [v], W => Turned (fun _ => False) w0 W ∧ v = .agg #[.int .i64 t.kind, .int .i64 t.n, .string t.name, .slice t.at_.1 t.args.length t.at_.2]
  | [_, v], W => v = .tuple #[.bool b, .int .i64 E] ∧ MRQ mk st MR (.returned (.tuple #[.bool b, .int .i64 E])) W
  | _, _ => False
section
variable {t : LT} {b : Bool} {E : Int} {mk : Tm.MS → World → Prop} {st : Tm.MS} {MR : Tm.MR} {w0 : World}
theorem TieS.turned0 (hm : ∀ s W W', mk s W → Turned (fun _ => False) W W' → mk s W') : ∀ (hs : List Value) (w w' : World), TieS t b E mk st MR w0 hs w → Turned (fun _ => False) w w' → TieS t b E mk st MR w0 hs w'
  | [], _, _, h, T => Turned.trans h T
  | [_], _, _, h, T => ⟨h.1.trans T, h.2⟩
  | [_, _], _, _, h, T => ⟨h.1, h.2.turned0 hm T⟩
  | _ :: _ :: _ :: _, _, _, h, _ => h.elim
theorem TieS.early : ∀ (hs : List Value) (W : World), hs.length ≤ 1 → TieS t b E mk st MR w0 hs W → Turned (fun _ => False) w0 W
  | [], _, _, h => h
  | [_], _, _, h => h.1
  | _ :: _ :: _, _, h, _ => absurd h (by simp)
theorem TieS.val : ∀ (hs : List Value) (W : World) {x : Value}, TieS t b E mk st MR w0 hs W → hs[1]? = some x → x = .tuple #[.bool b, .int .i64 E]
  | [], _, _, _, e => by simp at e
  | [_], _, _, _, e => by simp at e
  | [_, _], _, _, h, e => by simp at e; rw [← e]; exact h.1
  | _ :: _ :: _ :: _, _, _, h, _ => h.elim
end
section
variable {N bb mb gr gs R S : Nat} {bx : List (Nat × Obj)} {ts : List LT} {w1 w : World} {st st' : Tm.MS} {x t : LT}
def OneOk (R S : Nat) (st : Tm.MS) (op name : ByteArray) (b c : Nat) (n : Int) : Prop :=
  (op = Tm.sVar ∧ b < S) ∨ (op = Tm.sVal ∧ b < S ∧ Tm.ownB st.m (st.ss.getD b (Tm.V 0)) = true) ∨ (op = Tm.sInt ∧ I64 n) ∨ (op = Tm.sAtom) ∨ (op = Tm.sComp ∧ 1 ≤ b ∧ b ≤ 12 ∧ c + b ≤ R ∧ st.m + b ≤ 65536)
set_option maxRecDepth 100000 in
set_option maxHeartbeats 3200000 in
theorem one159 {op name : ByteArray} {a b c : Nat} {n : Int} (hN : N = w1.heap.size) (h : MK N bb mb gr gs R S bx ts w1 st w) (ha : a < R) (hR : R ≤ 2000) (hS : S ≤ 2000) (hs : name.size ≤ maxLen) (hown : Tm.ownB st.m (st.rs.getD a (Tm.V 0)) = true) (hop : OneOk R S st op name b c n) :
    Calls Try.prog 159 #[.pointer (some ⟨mb, 0, none⟩), .agg #[.string op, .int .i64 (a : Int), .int .i64 (b : Int), .int .i64 (c : Int), .int .i64 n, .string name]] w (MRQ (MK N bb mb gr gs R S bx ts w1) st (Tm.stepM st ⟨op, (a : Int), (b : Int), (c : Int), n, name⟩)) := by
  have hm1 : MK N bb mb gr gs R S ((w.heap.size, .cells #[.string op, .int .i64 (a : Int), .int .i64 (b : Int), .int .i64 (c : Int), .int .i64 n, .string name] 139 (0, 0)) :: bx) ts w1 st (w.alloc (.cells #[.string op, .int .i64 (a : Int), .int .i64 (b : Int), .int .i64 (c : Int), .int .i64 n, .string name] 139)) := h.box (.cells #[.string op, .int .i64 (a : Int), .int .i64 (b : Int), .int .i64 (c : Int), .int .i64 n, .string name] 139); obtain ⟨w2, hw2⟩ : ∃ z, z = w.alloc (.cells #[.string op, .int .i64 (a : Int), .int .i64 (b : Int), .int .i64 (c : Int), .int .i64 n, .string name] 139) := ⟨_, rfl⟩; rw [← hw2] at hm1
  have hla : st.rs[a]? = some (st.rs.getD a (Tm.V 0)) := by
    have := h.lens.1; rw [List.getD_eq_getElem?_getD, List.getElem?_eq_getElem (by omega)]; rfl
  obtain ⟨r, hr, hrc, hm2⟩ := hm1.reg hla; rw [← hr] at hown; obtain ⟨MR, hMR⟩ : ∃ z, z = Tm.stepM st ⟨op, (a : Int), (b : Int), (c : Int), n, name⟩ := ⟨_, rfl⟩; rw [← hMR]; unfold Tm.stepM at hMR; simp only [Int.toNat_natCast, ← hr] at hMR; have howx : Tm.ownB st.m (Tm.walkT st.l r.bare) = true := Tm.walkT_own h.ok _ _ (Nat.le_refl _) hown; have HMR := hid hMR; have HOX := hid howx; have HM2 := hid hm2; have HW2 := hid hw2; have HN := hid hN; have HAR : Hid (a < R ∧ R ≤ 2000) := ⟨ha, hR⟩; have HOP := hid hop; have HNS := hid hs
  have HGO : Hid (∀ z ∈ r.bare.flat, goodOneB z = true) := by
    have := (Tm.ownB_iff.1 hown).1; unfold goodB at this; simp only [Bool.and_eq_true, List.all_eq_true] at this; exact this.2.2
  have HW12 : Hid (w1.heap.size ≤ w2.heap.size) := hm2.wsize
  have HBL : Hid (∀ e ∈ ((w.heap.size, .cells #[.string op, .int .i64 (a : Int), .int .i64 (b : Int), .int .i64 (c : Int), .int .i64 n, .string name] 139 (0, 0)) :: bx), e.1 < w2.heap.size) := fun e he => (Array.getElem?_eq_some_iff.1 (hm2.boxes e he)).1
  have HBX : Hid (∀ W, Turned (fun _ => False) w2 W → (W.cell? ⟨mb, 0, none⟩ = some (.pointer (some ⟨bb, 0, none⟩)) ∧ W.cell? ⟨mb, 1, none⟩ = some (.slice (some ⟨gr, 0, none⟩) R R) ∧ W.cell? ⟨mb, 2, none⟩ = some (.slice (some ⟨gs, 0, none⟩) S S)) ∧ (W.cell? ⟨w.heap.size, 0, none⟩ = some (.string op) ∧ W.cell? ⟨w.heap.size, 1, none⟩ = some (.int .i64 (a : Int)) ∧ W.cell? ⟨w.heap.size, 2, none⟩ = some (.int .i64 (b : Int)) ∧ W.cell? ⟨w.heap.size, 3, none⟩ = some (.int .i64 (c : Int)) ∧ W.cell? ⟨w.heap.size, 4, none⟩ = some (.int .i64 n) ∧ W.cell? ⟨w.heap.size, 5, none⟩ = some (.string name)) ∧
      W.cell? ⟨gr, a * 4, none⟩ = some (.int .i64 r.kind) ∧ W.cell? ⟨gr, a * 4 + 1, none⟩ = some (.int .i64 r.n) ∧ W.cell? ⟨gr, a * 4 + 2, none⟩ = some (.string r.name) ∧ W.cell? ⟨gr, a * 4 + 3, none⟩ = some (.slice r.at_.1 r.args.length r.at_.2)) := fun W T => by
    have hW := hm2.turned0 T; obtain ⟨b0, b1, b2, _⟩ := rec3b hW.mbox; exact ⟨⟨b0, b1, b2⟩, cells6 (hW.boxes _ (List.mem_cons_self ..)), T.cell0 hrc.1, T.cell0 hrc.2.1, T.cell0 hrc.2.2.1, T.cell0 hrc.2.2.2⟩
  obtain ⟨⟨b0, b1, b2⟩, ⟨m0, m1, m2, m3, m4, m5⟩, r0, r1, r2, r3⟩ := HBX.out w2 (Turned.refl _ _); clear h hm1 hm2 hw2 hla hr hrc hMR hown howx hN ha hR hS hs hop; go_enter Try.func159, Try.ntmps159
  go_wp2_with fail
  rw [← HW2.out]
  try go_wp2_with fail
  refine wp_region_k [10, 11, 12, 13, 14, 15, 16, 17, 18, 19, 20, 21, 22, 6] [12, 13, 14] [(22, 12), (6, 13)] (fun dd vv => (match dd with | 10 => vv = .pointer (some ⟨mb, 0, none⟩) | 11 => vv = .pointer (some ⟨mb, 0, none⟩) | 12 => vv = .pointer (some ⟨mb, 0, none⟩) | 13 => vv = .pointer (some ⟨bb, 0, none⟩) | 14 => vv = .pointer (some ⟨mb, 0, none⟩) | 15 => vv = .pointer (some ⟨mb, 0, none⟩) | 16 => vv = .pointer (some ⟨mb, 1, none⟩) | 17 => vv = .slice (some ⟨gr, 0, none⟩) R R | 18 => vv = .pointer (some ⟨w.heap.size, 1, none⟩) | 19 => vv = .int .i64 (a : Int) | 20 => vv = .pointer (some ⟨gr, a * 4, none⟩) | 21 => vv = .agg #[.int .i64 r.kind, .int .i64 r.n, .string r.name, .slice r.at_.1 r.args.length r.at_.2] | _ => True : Prop)) (WkR (MKx N bb mb gr gs R S ((w.heap.size, .cells #[.string op, .int .i64 (a : Int), .int .i64 (b : Int), .int .i64 (c : Int), .int .i64 n, .string name] 139 (0, 0)) :: bx) (r :: ts) w1 st) w2 (Tm.walkT st.l r.bare)) (by kernel_rfl) rfl (by kernel_rfl) (by kernel_rfl) (fun W T => WkR.start HM2.out T) (fun hs W W' h T => h.turned0 T) ?hs ?hQ
  case hs =>
    refine ⟨?s0, ?s1, ?s2, ?s3, ?s4, ?s5, ?s6, ?s7, ?s8, ?s9, ?s10, ?s11, ?s12, ?s13, ?s14, trivial⟩
    case s0 =>
      refine fun hs hl => stepG_free [] [0] (by kernel_rfl) rfl ?_
      intro ac W hT hI hO; have h0 : ac.tmps.getD 0 undef = .pointer (some ⟨mb, 0, none⟩) := hO 0 (by simp); show Brings _ (fun v _ => _ ∧ v = _) _; simp only [execOp, Act.eval, h0]; go_simp
      try exact tq
    case s1 =>
      refine fun hs hl => stepG_free [10] [] (by kernel_rfl) rfl ?_
      intro ac W hT hI hO; have h10 : ac.tmps.getD 10 undef = _ := hI 10 (by simp); show Brings _ (fun v _ => _ ∧ v = _) _; simp only [execOp, Act.eval, h10]; go_simp
      try exact tq
    case s2 =>
      refine fun hs hl => stepG_free [11] [] (by kernel_rfl) rfl ?_
      intro ac W hT hI hO; have h11 : ac.tmps.getD 11 undef = _ := hI 11 (by simp); show Brings _ (fun v _ => _ ∧ v = _) _; simp only [execOp, Act.eval, h11]; go_simp
      try exact tq
    case s3 =>
      refine fun hs hl => stepG_free [12] [] (by kernel_rfl) rfl ?_
      intro ac W hT hI hO; have h12 : ac.tmps.getD 12 undef = _ := hI 12 (by simp); show Brings _ (fun v _ => _ ∧ v = _) _; obtain ⟨⟨b0, b1, b2⟩, ⟨m0, m1, m2, m3, m4, m5⟩, r0, r1, r2, r3⟩ := HBX.out W hT.t; simp only [execOp, Act.eval, h12]; go_simp
      try exact tq
    case s4 =>
      refine fun hs hl => stepG_free [] [0] (by kernel_rfl) rfl ?_
      intro ac W hT hI hO; have h0 : ac.tmps.getD 0 undef = .pointer (some ⟨mb, 0, none⟩) := hO 0 (by simp); show Brings _ (fun v _ => _ ∧ v = _) _; simp only [execOp, Act.eval, h0]; go_simp
      try exact tq
    case s5 =>
      refine fun hs hl => stepG_free [14] [] (by kernel_rfl) rfl ?_
      intro ac W hT hI hO; have h14 : ac.tmps.getD 14 undef = _ := hI 14 (by simp); show Brings _ (fun v _ => _ ∧ v = _) _; simp only [execOp, Act.eval, h14]; go_simp
      try exact tq
    case s6 =>
      refine fun hs hl => stepG_free [15] [] (by kernel_rfl) rfl ?_
      intro ac W hT hI hO; have h15 : ac.tmps.getD 15 undef = _ := hI 15 (by simp); show Brings _ (fun v _ => _ ∧ v = _) _; simp only [execOp, Act.eval, h15]; go_simp
      try exact tq
    case s7 =>
      refine fun hs hl => stepG_free [16] [] (by kernel_rfl) rfl ?_
      intro ac W hT hI hO; have h16 : ac.tmps.getD 16 undef = _ := hI 16 (by simp); show Brings _ (fun v _ => _ ∧ v = _) _; obtain ⟨⟨b0, b1, b2⟩, ⟨m0, m1, m2, m3, m4, m5⟩, r0, r1, r2, r3⟩ := HBX.out W hT.t; simp only [execOp, Act.eval, h16]; go_simp
      try exact tq
    case s8 =>
      refine fun hs hl => stepG_free [] [3] (by kernel_rfl) rfl ?_
      intro ac W hT hI hO; have h3 : ac.tmps.getD 3 undef = .pointer (some ⟨w.heap.size, 0, none⟩) := hO 3 (by simp); show Brings _ (fun v _ => _ ∧ v = _) _; simp only [execOp, Act.eval, h3]; go_simp
      try exact tq
    case s9 =>
      refine fun hs hl => stepG_free [18] [] (by kernel_rfl) rfl ?_
      intro ac W hT hI hO; have h18 : ac.tmps.getD 18 undef = _ := hI 18 (by simp); show Brings _ (fun v _ => _ ∧ v = _) _; obtain ⟨⟨b0, b1, b2⟩, ⟨m0, m1, m2, m3, m4, m5⟩, r0, r1, r2, r3⟩ := HBX.out W hT.t; simp only [execOp, Act.eval, h18]; go_simp
      try exact tq
    case s10 =>
      refine fun hs hl => stepG_free [17, 19] [] (by kernel_rfl) rfl ?_
      intro ac W hT hI hO; have h17 : ac.tmps.getD 17 undef = _ := hI 17 (by simp); have h19 : ac.tmps.getD 19 undef = _ := hI 19 (by simp); show Brings _ (fun v _ => _ ∧ v = _) _; have haR := HAR.out; simp only [execOp, Act.eval, h17, h19]; go_simp
      try exact tq
    case s11 =>
      refine fun hs hl => stepG_free [20] [] (by kernel_rfl) rfl ?_
      intro ac W hT hI hO; have h20 : ac.tmps.getD 20 undef = _ := hI 20 (by simp); show Brings _ (fun v _ => _ ∧ v = _) _; obtain ⟨⟨b0, b1, b2⟩, ⟨m0, m1, m2, m3, m4, m5⟩, r0, r1, r2, r3⟩ := HBX.out W hT.t; simp only [execOp, Act.eval, h20]; go_simp
      try exact tq
    case s12 =>
      refine fun hs hno hl => stepG_free [13, 21] [] (by kernel_rfl) rfl ?_
      intro ac W hT hI hO; have h13 : ac.tmps.getD 13 undef = _ := hI 13 (by simp); have h21 : ac.tmps.getD 21 undef = _ := hI 21 (by simp); show Brings Try.prog (fun vv w' => WkR (MKx N bb mb gr gs R S ((w.heap.size, .cells #[.string op, .int .i64 (a : Int), .int .i64 (b : Int), .int .i64 (c : Int), .int .i64 n, .string name] 139 (0, 0)) :: bx) (r :: ts) w1 st) w2 (Tm.walkT st.l r.bare) (hs ++ [(12, vv)]) w') _; simp only [execOp, Act.eval, h13, h21]; go_simp; show Calls Try.prog 90 _ W _
      (with_reducible refine (hT.called HN.out (List.mem_cons_self ..) HGO.out hno (fun q => hl 14 15 q (by kernel_rfl))).mono ?_)
      rintro e w' ⟨u, rfl, g⟩
      exact ⟨_, rfl, g⟩
    case s13 =>
      refine fun hs hno hl => stepG_free [] [] (by kernel_rfl) rfl ?_
      intro ac W hT hI hO; show Brings Try.prog (fun vv w' => WkR (MKx N bb mb gr gs R S ((w.heap.size, .cells #[.string op, .int .i64 (a : Int), .int .i64 (b : Int), .int .i64 (c : Int), .int .i64 n, .string name] 139 (0, 0)) :: bx) (r :: ts) w1 st) w2 (Tm.walkT st.l r.bare) (hs ++ [(13, vv)]) w') _; simp only [execOp, Act.eval]; go_simp; exact hT.laid hno (fun q => hl 14 15 q (by kernel_rfl))
    case s14 =>
      refine fun hs hno hl => stepG_free [6, 22] [] (by kernel_rfl) rfl ?_
      intro ac W hT hI hO; have h6 : (13, ac.tmps.getD 6 undef) ∈ hs := hI 6 (by simp); have h22 : (12, ac.tmps.getD 22 undef) ∈ hs := hI 22 (by simp); obtain ⟨B, a0, a1, a2, a3, eB, hB⟩ := hT.cell h6; obtain ⟨u, eA⟩ := hT.val h22; have h22' := h22; rw [eA] at h22'; obtain ⟨d0, d1, d2, d3, f0, f1, f2, f3⟩ := cells4 hB; show Brings Try.prog (fun vv w' => WkR (MKx N bb mb gr gs R S ((w.heap.size, .cells #[.string op, .int .i64 (a : Int), .int .i64 (b : Int), .int .i64 (c : Int), .int .i64 n, .string name] 139 (0, 0)) :: bx) (r :: ts) w1 st) w2 (Tm.walkT st.l r.bare) (hs ++ [(14, vv)]) w') _; simp only [execOp, Act.eval, eB, eA]; go_simp; rw [eB] at h6; exact hT.stored HW12.out HBL.out h6 h22'
  case hQ =>
    intro hs vs w5 hall huniq hR hV; have q6 : (13, vs 6) ∈ hs := hV 6 (by simp); obtain ⟨B, u, hB, hub, hmk⟩ := hR.done hall q6; simp only [List.foldl_cons, List.foldl_nil, List.setIfInBounds_toArray, List.set_cons_zero, List.set_cons_succ, hB]; have HM5 : Hid (MK N bb mb gr gs R S ((B, .cells #[.int .i64 u.kind, .int .i64 u.n, .string u.name, .slice u.at_.1 u.args.length u.at_.2] 27 (0, 0)) :: (w.heap.size, .cells #[.string op, .int .i64 (a : Int), .int .i64 (b : Int), .int .i64 (c : Int), .int .i64 n, .string name] 139 (0, 0)) :: bx) (u :: r :: ts) w1 st w5) := hmk; have HUB := hid hub; clear hall huniq hR hV q6 hB hmk hub
    have HC5 : Hid (∀ W, Turned (fun _ => False) w5 W → (W.cell? ⟨mb, 0, none⟩ = some (.pointer (some ⟨bb, 0, none⟩)) ∧ W.cell? ⟨mb, 1, none⟩ = some (.slice (some ⟨gr, 0, none⟩) R R) ∧ W.cell? ⟨mb, 2, none⟩ = some (.slice (some ⟨gs, 0, none⟩) S S)) ∧ (W.cell? ⟨w.heap.size, 0, none⟩ = some (.string op) ∧ W.cell? ⟨w.heap.size, 1, none⟩ = some (.int .i64 (a : Int)) ∧ W.cell? ⟨w.heap.size, 2, none⟩ = some (.int .i64 (b : Int)) ∧ W.cell? ⟨w.heap.size, 3, none⟩ = some (.int .i64 (c : Int)) ∧ W.cell? ⟨w.heap.size, 4, none⟩ = some (.int .i64 n) ∧ W.cell? ⟨w.heap.size, 5, none⟩ = some (.string name)) ∧
        W.cell? ⟨B, 0, none⟩ = some (.int .i64 u.kind) ∧ W.cell? ⟨B, 1, none⟩ = some (.int .i64 u.n) ∧ W.cell? ⟨B, 2, none⟩ = some (.string u.name) ∧ W.cell? ⟨B, 3, none⟩ = some (.slice u.at_.1 u.args.length u.at_.2)) := fun W T => by
      have hW := HM5.out.turned0 T; obtain ⟨b0, b1, b2, _⟩ := rec3b hW.mbox; obtain ⟨e0, e1, e2, e3, _⟩ := cells4 (hW.boxes _ (List.mem_cons_self ..)); exact ⟨⟨b0, b1, b2⟩, cells6 (hW.boxes _ (List.mem_cons_of_mem _ (List.mem_cons_self ..))), e0, e1, e2, e3⟩
    have gu : goodB u = true := by rw [← goodB_bare, HUB.out]; exact (Tm.ownB_iff.1 HOX.out).1
    have HSU : Hid (slim u) := good_slim gu
    have hsub : ∀ s W, MK N bb mb gr gs R S ((B, .cells #[.int .i64 u.kind, .int .i64 u.n, .string u.name, .slice u.at_.1 u.args.length u.at_.2] 27 (0, 0)) :: (w.heap.size, .cells #[.string op, .int .i64 (a : Int), .int .i64 (b : Int), .int .i64 (c : Int), .int .i64 n, .string name] 139 (0, 0)) :: bx) (u :: r :: ts) w1 s W → MK N bb mb gr gs R S bx ts w1 s W := fun s W h => h.sub (fun b h => List.mem_cons_of_mem _ (List.mem_cons_of_mem _ h)) (fun x h => List.mem_cons_of_mem _ (List.mem_cons_of_mem _ h))
    have HSB := hid hsub; clear gu hsub; obtain ⟨⟨b0, b1, b2⟩, ⟨m0, m1, m2, m3, m4, m5⟩, r0, r1, r2, r3⟩ := HC5.out w5 (Turned.refl _ _); have hop := HOP.out; rw [← HUB.out] at HMR
    rcases hop with ⟨rfl, hbS⟩ | ⟨rfl, hbS, hos⟩ | ⟨rfl, h64⟩ | rfl | ⟨rfl, hb1, hb12, hcR, hmb⟩
    · have o0 := op_Var_Var
      have HE : Hid (MR = .go ⟨st.m, st.l, st.rs, st.ss.set b u.bare⟩) := by show _ = _; rw [HMR.out, if_pos rfl]
      have hms := (HM5.out.turned0 ((Turned.refl (fun _ => False) w5).drew)).setSlot HN.out (i := b) hbS; have HMS := hid hms; obtain ⟨e0, e1, e2, e3, ⟨s0, s1, s2, s3⟩, f0, f1, f2, f3⟩ := HM5.out.slotAt hbS; clear hms
      go_wp2_with fail
      refine region_tail 8 (by kernel_rfl) (by kernel_rfl) ?_; simp only [List.take_succ_cons, List.take_zero, List.drop_succ_cons, List.drop_zero]
      repeat still_step
      refine wpStill_nil ?_
      go_wp2_with fail
      go_ret2
      rw [HE.out]; exact ⟨rfl, HSB.out _ _ HMS.out⟩
    · have o0 := op_Val_Var
      have o1 := op_Val_Val
      have hlb : st.ss[b]? = some (st.ss.getD b (Tm.V 0)) := by
        have := HM5.out.lens.2; rw [List.getD_eq_getElem?_getD, List.getElem?_eq_getElem (by omega)]; rfl
      obtain ⟨s, hsb, hsc, hms⟩ := HM5.out.slot hlb; rw [← hsb] at hos
      have gs0 : goodB s = true := by rw [← goodB_bare]; exact (Tm.ownB_iff.1 hos).1
      have HSS : Hid (slim s) := good_slim gs0; obtain ⟨Q, hQ⟩ : ∃ z, z = bothR st.m st.l s.bare u.bare := ⟨_, rfl⟩; obtain ⟨rok, rc, re, rtr⟩ := Q
      have hval : MR = (if rok = true ∧ re = 0 then .go ⟨st.m, rtr, st.rs, st.ss⟩ else .stop re st.m) := by
        rw [HMR.out, if_neg (by decide), if_pos rfl]; unfold Tm.valM; rw [← hsb, ← hQ]
      have HVAL := hid hval; have HQR := hid hQ.symm
      have hboth : ∀ W, Turned (fun _ => False) w5 W → Calls Try.prog 110 #[.pointer (some ⟨bb, 0, none⟩), .agg #[.int .i64 s.kind, .int .i64 s.n, .string s.name, .slice s.at_.1 s.args.length s.at_.2], .agg #[.int .i64 u.kind, .int .i64 u.n, .string u.name, .slice u.at_.1 u.args.length u.at_.2]] W fun E w' => E = .returned (.tuple #[.bool rok, .int .i64 rc, .int .i64 re]) ∧ MK N bb mb gr gs R S bx ts w1 ⟨st.m, rtr, st.rs, st.ss⟩ w' := fun W T => by
        obtain ⟨q, O, l, h3, hl, hq, hts, hk⟩ := MK.call HN.out (hms.turned0 T); refine (bothVal h3 (hts s (List.mem_cons_self ..)) HSS.out (hts u (List.mem_cons_of_mem _ (List.mem_cons_self ..))) HSU.out (show bothR st.m (bt l) s.bare u.bare = (rok, rc, re, rtr) by rw [hl]; exact HQR.out)).mono ?_
        rintro E w' ⟨rfl, l2, hl2, ha⟩
        have := hk _ l2 w' ha; rw [hl2] at this; exact ⟨rfl, this.sub (fun b h => List.mem_cons_of_mem _ (List.mem_cons_of_mem _ h)) (fun x h => List.mem_cons_of_mem _ (List.mem_cons_of_mem _ (List.mem_cons_of_mem _ h)))⟩
      have HBO := hid hboth
      have HSC : Hid (∀ W, Turned (fun _ => False) w5 W → W.cell? ⟨gs, b * 4, none⟩ = some (.int .i64 s.kind) ∧ W.cell? ⟨gs, b * 4 + 1, none⟩ = some (.int .i64 s.n) ∧ W.cell? ⟨gs, b * 4 + 2, none⟩ = some (.string s.name) ∧ W.cell? ⟨gs, b * 4 + 3, none⟩ = some (.slice s.at_.1 s.args.length s.at_.2)) := fun W T => ⟨T.cell0 hsc.1, T.cell0 hsc.2.1, T.cell0 hsc.2.2.1, T.cell0 hsc.2.2.2⟩
      have HBS := hid hbS; clear hsc hlb hsb hms hos gs0 hQ hval hboth
      go_wp2_with fail
      refine wp_region_hsW [38, 39, 40, 41, 42, 43, 44, 45, 46, 47, 48, 49, 50, 51, 37, 52, 53, 54, 7, 8, 9] [13] [0, 0, 0, 0, 0, 0, 0, 0, 0, 0, 0, 0, 0, 1, 1, 1, 1, 1, 1, 1, 1] [51] (fun dd vv => (match dd with | 38 => vv = .pointer (some ⟨mb, 0, none⟩) | 39 => vv = .pointer (some ⟨mb, 0, none⟩) | 40 => vv = .pointer (some ⟨mb, 0, none⟩) | 41 => vv = .pointer (some ⟨bb, 0, none⟩) | 42 => vv = .pointer (some ⟨mb, 0, none⟩) | 43 => vv = .pointer (some ⟨mb, 0, none⟩) | 44 => vv = .pointer (some ⟨mb, 2, none⟩) | 45 => vv = .slice (some ⟨gs, 0, none⟩) S S | 46 => vv = .pointer (some ⟨w.heap.size, 2, none⟩) | 47 => vv = .int .i64 (b : Int) | 48 => vv = .pointer (some ⟨gs, b * 4, none⟩) | 49 => vv = .agg #[.int .i64 s.kind, .int .i64 s.n, .string s.name, .slice s.at_.1 s.args.length s.at_.2] | 50 => vv = .agg #[.int .i64 u.kind, .int .i64 u.n, .string u.name, .slice u.at_.1 u.args.length u.at_.2] | 37 => vv = .tuple #[.bool rok, .int .i64 rc, .int .i64 re] | 52 => vv = .bool rok | 53 => vv = .int .i64 rc | 54 => vv = .int .i64 re | 7 => vv = .bool rok | 8 => vv = .int .i64 rc | 9 => vv = .int .i64 re | _ => True : Prop)) (OneM (.tuple #[.bool rok, .int .i64 rc, .int .i64 re]) (MK N bb mb gr gs R S bx ts w1 ⟨st.m, rtr, st.rs, st.ss⟩) w5) (by kernel_rfl) rfl (by kernel_rfl) (by kernel_rfl) (by kernel_rfl) (by kernel_rfl) (fun w h => h) (fun hs w w' h T => OneM.turned0 (fun W W' h T => h.turned0 T) hs w w' h T) ?hs ?hQ
      case hs =>
        refine ⟨?s0, ?s1, ?s2, ?s3, ?s4, ?s5, ?s6, ?s7, ?s8, ?s9, ?s10, ?s11, ?s12, ?s13, ?s14, ?s15, ?s16, ?s17, ?s18, ?s19, ?s20, trivial⟩
        case s0 =>
          refine fun hs hle => stepG_free [] [0] (by kernel_rfl) rfl ?_
          intro ac W hT hI hO; have hle : hs.length ≤ 0 := hle; have h0 : ac.tmps.getD 0 undef = .pointer (some ⟨mb, 0, none⟩) := hO 0 (by simp); show Brings _ (fun v _ => _ ∧ v = _) _; simp only [execOp, Act.eval, h0]; go_simp
          try exact tq
        case s1 =>
          refine fun hs hle => stepG_free [38] [] (by kernel_rfl) rfl ?_
          intro ac W hT hI hO; have hle : hs.length ≤ 0 := hle; have h38 : ac.tmps.getD 38 undef = _ := hI 38 (by simp); show Brings _ (fun v _ => _ ∧ v = _) _; simp only [execOp, Act.eval, h38]; go_simp
          try exact tq
        case s2 =>
          refine fun hs hle => stepG_free [39] [] (by kernel_rfl) rfl ?_
          intro ac W hT hI hO; have hle : hs.length ≤ 0 := hle; have h39 : ac.tmps.getD 39 undef = _ := hI 39 (by simp); show Brings _ (fun v _ => _ ∧ v = _) _; simp only [execOp, Act.eval, h39]; go_simp
          try exact tq
        case s3 =>
          refine fun hs hle => stepG_free [40] [] (by kernel_rfl) rfl ?_
          intro ac W hT hI hO; have hle : hs.length ≤ 0 := hle; have h40 : ac.tmps.getD 40 undef = _ := hI 40 (by simp); show Brings _ (fun v _ => _ ∧ v = _) _; obtain ⟨⟨b0, b1, b2⟩, ⟨m0, m1, m2, m3, m4, m5⟩, r0, r1, r2, r3⟩ := HC5.out W (OneM.early hs W (by omega) hT); simp only [execOp, Act.eval, h40]; go_simp
          try exact tq
        case s4 =>
          refine fun hs hle => stepG_free [] [0] (by kernel_rfl) rfl ?_
          intro ac W hT hI hO; have hle : hs.length ≤ 0 := hle; have h0 : ac.tmps.getD 0 undef = .pointer (some ⟨mb, 0, none⟩) := hO 0 (by simp); show Brings _ (fun v _ => _ ∧ v = _) _; simp only [execOp, Act.eval, h0]; go_simp
          try exact tq
        case s5 =>
          refine fun hs hle => stepG_free [42] [] (by kernel_rfl) rfl ?_
          intro ac W hT hI hO; have hle : hs.length ≤ 0 := hle; have h42 : ac.tmps.getD 42 undef = _ := hI 42 (by simp); show Brings _ (fun v _ => _ ∧ v = _) _; simp only [execOp, Act.eval, h42]; go_simp
          try exact tq
        case s6 =>
          refine fun hs hle => stepG_free [43] [] (by kernel_rfl) rfl ?_
          intro ac W hT hI hO; have hle : hs.length ≤ 0 := hle; have h43 : ac.tmps.getD 43 undef = _ := hI 43 (by simp); show Brings _ (fun v _ => _ ∧ v = _) _; simp only [execOp, Act.eval, h43]; go_simp
          try exact tq
        case s7 =>
          refine fun hs hle => stepG_free [44] [] (by kernel_rfl) rfl ?_
          intro ac W hT hI hO; have hle : hs.length ≤ 0 := hle; have h44 : ac.tmps.getD 44 undef = _ := hI 44 (by simp); show Brings _ (fun v _ => _ ∧ v = _) _; obtain ⟨⟨b0, b1, b2⟩, ⟨m0, m1, m2, m3, m4, m5⟩, r0, r1, r2, r3⟩ := HC5.out W (OneM.early hs W (by omega) hT); simp only [execOp, Act.eval, h44]; go_simp
          try exact tq
        case s8 =>
          refine fun hs hle => stepG_free [] [3] (by kernel_rfl) rfl ?_
          intro ac W hT hI hO; have hle : hs.length ≤ 0 := hle; have h3 : ac.tmps.getD 3 undef = .pointer (some ⟨w.heap.size, 0, none⟩) := hO 3 (by simp); show Brings _ (fun v _ => _ ∧ v = _) _; simp only [execOp, Act.eval, h3]; go_simp
          try exact tq
        case s9 =>
          refine fun hs hle => stepG_free [46] [] (by kernel_rfl) rfl ?_
          intro ac W hT hI hO; have hle : hs.length ≤ 0 := hle; have h46 : ac.tmps.getD 46 undef = _ := hI 46 (by simp); show Brings _ (fun v _ => _ ∧ v = _) _; obtain ⟨⟨b0, b1, b2⟩, ⟨m0, m1, m2, m3, m4, m5⟩, r0, r1, r2, r3⟩ := HC5.out W (OneM.early hs W (by omega) hT); simp only [execOp, Act.eval, h46]; go_simp
          try exact tq
        case s10 =>
          refine fun hs hle => stepG_free [45, 47] [] (by kernel_rfl) rfl ?_
          intro ac W hT hI hO; have hle : hs.length ≤ 0 := hle; have h45 : ac.tmps.getD 45 undef = _ := hI 45 (by simp); have h47 : ac.tmps.getD 47 undef = _ := hI 47 (by simp); show Brings _ (fun v _ => _ ∧ v = _) _; have hbS := HBS.out; simp only [execOp, Act.eval, h45, h47]; go_simp
          try exact tq
        case s11 =>
          refine fun hs hle => stepG_free [48] [] (by kernel_rfl) rfl ?_
          intro ac W hT hI hO; have hle : hs.length ≤ 0 := hle; have h48 : ac.tmps.getD 48 undef = _ := hI 48 (by simp); show Brings _ (fun v _ => _ ∧ v = _) _; obtain ⟨s0, s1, s2, s3⟩ := HSC.out W (OneM.early hs W (by omega) hT); simp only [execOp, Act.eval, h48]; go_simp
          try exact tq
        case s12 =>
          refine fun hs hle => stepG_free [] [6] (by kernel_rfl) rfl ?_
          intro ac W hT hI hO; have hle : hs.length ≤ 0 := hle; have h6 : ac.tmps.getD 6 undef = .pointer (some ⟨B, 0, none⟩) := hO 6 (by simp); show Brings _ (fun v _ => _ ∧ v = _) _; obtain ⟨⟨b0, b1, b2⟩, ⟨m0, m1, m2, m3, m4, m5⟩, r0, r1, r2, r3⟩ := HC5.out W (OneM.early hs W (by omega) hT); simp only [execOp, Act.eval, h6]; go_simp
          try exact tq
        case s13 =>
          refine fun hs hlen => stepG_free [41, 49, 50] [] (by kernel_rfl) rfl ?_
          intro ac W hT hI hO; have h41 : ac.tmps.getD 41 undef = _ := hI 41 (by simp); have h49 : ac.tmps.getD 49 undef = _ := hI 49 (by simp); have h50 : ac.tmps.getD 50 undef = _ := hI 50 (by simp); obtain rfl : hs = [] := List.eq_nil_of_length_eq_zero hlen; replace hT : Turned (fun _ => False) w5 W := hT; show Brings Try.prog (fun vv w' => OneM (.tuple #[.bool rok, .int .i64 rc, .int .i64 re]) (MK N bb mb gr gs R S bx ts w1 ⟨st.m, rtr, st.rs, st.ss⟩) w5 [vv] w') _; simp only [execOp, Act.eval, h41, h49, h50]; go_simp; show Calls Try.prog 110 _ W _
          (with_reducible refine (HBO.out W hT).mono ?_)
          rintro e w' ⟨rfl, hq⟩
          exact ⟨_, rfl, rfl, hq⟩
        case s14 =>
          refine fun hs hle => stepG_free [51] [] (by kernel_rfl) rfl ?_
          intro ac W hT hI hO; have hle : hs.length ≤ 1 := hle; have h51 : hs[0]? = some (ac.tmps.getD 51 undef) := hI 51 (by simp); have ef := OneM.val hs W hT h51; show Brings _ (fun v _ => _ ∧ v = _) _; simp only [execOp, Act.eval, ef]; go_simp
          try exact tq
        case s15 =>
          refine fun hs hle => stepG_free [37] [] (by kernel_rfl) rfl ?_
          intro ac W hT hI hO; have hle : hs.length ≤ 1 := hle; have h37 : ac.tmps.getD 37 undef = _ := hI 37 (by simp); show Brings _ (fun v _ => _ ∧ v = _) _; simp only [execOp, Act.eval, h37]; go_simp
          try exact tq
        case s16 =>
          refine fun hs hle => stepG_free [37] [] (by kernel_rfl) rfl ?_
          intro ac W hT hI hO; have hle : hs.length ≤ 1 := hle; have h37 : ac.tmps.getD 37 undef = _ := hI 37 (by simp); show Brings _ (fun v _ => _ ∧ v = _) _; simp only [execOp, Act.eval, h37]; go_simp
          try exact tq
        case s17 =>
          refine fun hs hle => stepG_free [37] [] (by kernel_rfl) rfl ?_
          intro ac W hT hI hO; have hle : hs.length ≤ 1 := hle; have h37 : ac.tmps.getD 37 undef = _ := hI 37 (by simp); show Brings _ (fun v _ => _ ∧ v = _) _; simp only [execOp, Act.eval, h37]; go_simp
          try exact tq
        case s18 =>
          refine fun hs hle => stepG_free [52] [] (by kernel_rfl) rfl ?_
          intro ac W hT hI hO; have hle : hs.length ≤ 1 := hle; have h52 : ac.tmps.getD 52 undef = _ := hI 52 (by simp); show Brings _ (fun v _ => _ ∧ v = _) _; simp only [execOp, Act.eval, h52]; go_simp
          try exact tq
        case s19 =>
          refine fun hs hle => stepG_free [53] [] (by kernel_rfl) rfl ?_
          intro ac W hT hI hO; have hle : hs.length ≤ 1 := hle; have h53 : ac.tmps.getD 53 undef = _ := hI 53 (by simp); show Brings _ (fun v _ => _ ∧ v = _) _; simp only [execOp, Act.eval, h53]; go_simp
          try exact tq
        case s20 =>
          refine fun hs hle => stepG_free [54] [] (by kernel_rfl) rfl ?_
          intro ac W hT hI hO; have hle : hs.length ≤ 1 := hle; have h54 : ac.tmps.getD 54 undef = _ := hI 54 (by simp); show Brings _ (fun v _ => _ ∧ v = _) _; simp only [execOp, Act.eval, h54]; go_simp
          try exact tq
      case hQ =>
       intro hs vs w6 hlen hR hV; have q7 : vs 7 = .bool rok := hV 7 (by simp); have q8 : vs 8 = .int .i64 rc := hV 8 (by simp); have q9 : vs 9 = .int .i64 re := hV 9 (by simp); simp only [List.foldl_cons, List.foldl_nil, List.setIfInBounds_toArray, List.set_cons_zero, List.set_cons_succ, q7, q8, q9]; obtain ⟨a1, rfl⟩ := List.length_eq_one_iff.1 hlen; have H6 := hid hR.2; clear hlen hR hV q7 q8 q9
       go_wp2_with fail
       go_ret2
       rw [HVAL.out]
       by_cases hg : rok = true ∧ re = 0
       · rw [if_pos hg, hg.1, hg.2]
         exact ⟨rfl, H6.out⟩
       · rw [if_neg hg]
         obtain ⟨rfl, rfl⟩ := bothR_stop HQR.out hg; exact ⟨false, ⟨st.m, st.l, st.rs, st.ss⟩, rfl, (fun e => by cases e), rfl, ⟨[], rfl⟩, H6.out⟩
    · have o0 := op_Int_Var
      have o1 := op_Int_Val; have o2 := op_Int_Int; have H64 := hid h64; clear h64
      have HMT : Hid (MR = Tm.tieM st u.bare (leaf 1 n ByteArray.empty : LT).bare) := by show _ = _; rw [HMR.out, if_neg (by decide), if_neg (by decide), if_pos rfl]; rfl
      obtain ⟨B1, hB1⟩ : ∃ z, z = tieB MR := ⟨_, rfl⟩; obtain ⟨E1, hE1⟩ : ∃ z, z = tieE MR := ⟨_, rfl⟩
      have htie : ∀ W, Turned (fun _ => False) w5 W → Calls Try.prog 178 #[.pointer (some ⟨mb, 0, none⟩), .agg #[.int .i64 u.kind, .int .i64 u.n, .string u.name, .slice u.at_.1 u.args.length u.at_.2], .agg #[.int .i64 1, .int .i64 n, .string ByteArray.empty, .slice none 0 0]] W fun e w' => e = .returned (.tuple #[.bool B1, .int .i64 E1]) ∧ MRQ (MK N bb mb gr gs R S ((B, .cells #[.int .i64 u.kind, .int .i64 u.n, .string u.name, .slice u.at_.1 u.args.length u.at_.2] 27 (0, 0)) :: (w.heap.size, .cells #[.string Tm.sInt, .int .i64 (a : Int), .int .i64 (b : Int), .int .i64 (c : Int), .int .i64 n, .string name] 139 (0, 0)) :: bx) (u :: r :: ts) w1) st MR (.returned (.tuple #[.bool B1, .int .i64 E1])) w' := fun W T => by
        have := tie178 HN.out (HM5.out.turned0 T) ((HM5.out.turned0 T).terms u (List.mem_cons_self ..)) HSU.out (by rw [HUB.out]; exact HOX.out) (t := leaf 1 n ByteArray.empty) (fun p w => leafIn' (i64_lit 1 (by omega)) H64.out (by unfold maxLen; decide)) (slim_leaf _ _ _); rw [← HMT.out, ← hB1, ← hE1] at this; refine this.mono ?_
        rintro e w' ⟨h, rfl⟩
        exact ⟨rfl, h⟩
      have HTI := hid htie; clear hB1 hE1 htie
      go_wp2_with fail
      refine wp_region_hsW [59, 60, 61, 62, 63, 64, 65, 66, 4, 5] [4, 5] [1, 1, 0, 0, 1, 2, 2, 2, 2, 2] [63, 64] (fun dd vv => (match dd with | 59 => vv = .pointer (some ⟨mb, 0, none⟩) | 60 => vv = .agg #[.int .i64 u.kind, .int .i64 u.n, .string u.name, .slice u.at_.1 u.args.length u.at_.2] | 61 => vv = .pointer (some ⟨w.heap.size, 4, none⟩) | 62 => vv = .int .i64 n | 65 => vv = .bool B1 | 66 => vv = .int .i64 E1 | 4 => vv = .bool B1 | 5 => vv = .int .i64 E1 | _ => True : Prop)) (TieS (leaf 1 n ByteArray.empty) B1 E1 (MK N bb mb gr gs R S ((B, .cells #[.int .i64 u.kind, .int .i64 u.n, .string u.name, .slice u.at_.1 u.args.length u.at_.2] 27 (0, 0)) :: (w.heap.size, .cells #[.string Tm.sInt, .int .i64 (a : Int), .int .i64 (b : Int), .int .i64 (c : Int), .int .i64 n, .string name] 139 (0, 0)) :: bx) (u :: r :: ts) w1) st MR w5) (by kernel_rfl) rfl (by kernel_rfl) (by kernel_rfl) (by kernel_rfl) (by kernel_rfl) (fun w h => h) (fun hs w w' h T => TieS.turned0 (fun s W W' h T => h.turned0 T) hs w w' h T) ?hs ?hQ
      case hs =>
        refine ⟨?s0, ?s1, ?s2, ?s3, ?s4, ?s5, ?s6, ?s7, ?s8, ?s9, trivial⟩
        case s0 =>
          refine fun hs hle => stepG_free [] [0] (by kernel_rfl) rfl ?_
          intro ac W hT hI hO; have hle : hs.length ≤ 1 := hle; have h0 : ac.tmps.getD 0 undef = .pointer (some ⟨mb, 0, none⟩) := hO 0 (by simp); show Brings _ (fun v _ => _ ∧ v = _) _; simp only [execOp, Act.eval, h0]; go_simp
          try exact tq
        case s1 =>
          refine fun hs hle => stepG_free [] [6] (by kernel_rfl) rfl ?_
          intro ac W hT hI hO; have hle : hs.length ≤ 1 := hle; have h6 : ac.tmps.getD 6 undef = .pointer (some ⟨B, 0, none⟩) := hO 6 (by simp); show Brings _ (fun v _ => _ ∧ v = _) _; obtain ⟨⟨b0, b1, b2⟩, ⟨m0, m1, m2, m3, m4, m5⟩, r0, r1, r2, r3⟩ := HC5.out W (TieS.early hs W (by omega) hT); simp only [execOp, Act.eval, h6]; go_simp
          try exact tq
        case s2 =>
          refine fun hs hle => stepG_free [] [3] (by kernel_rfl) rfl ?_
          intro ac W hT hI hO; have hle : hs.length ≤ 0 := hle; have h3 : ac.tmps.getD 3 undef = .pointer (some ⟨w.heap.size, 0, none⟩) := hO 3 (by simp); show Brings _ (fun v _ => _ ∧ v = _) _; simp only [execOp, Act.eval, h3]; go_simp
          try exact tq
        case s3 =>
          refine fun hs hle => stepG_free [61] [] (by kernel_rfl) rfl ?_
          intro ac W hT hI hO; have hle : hs.length ≤ 0 := hle; have h61 : ac.tmps.getD 61 undef = _ := hI 61 (by simp); show Brings _ (fun v _ => _ ∧ v = _) _; obtain ⟨⟨b0, b1, b2⟩, ⟨m0, m1, m2, m3, m4, m5⟩, r0, r1, r2, r3⟩ := HC5.out W (TieS.early hs W (by omega) hT); simp only [execOp, Act.eval, h61]; go_simp
          try exact tq
        case s4 =>
          refine fun hs hlen => stepG_free [62] [] (by kernel_rfl) rfl ?_
          intro ac W hT hI hO; have h62 : ac.tmps.getD 62 undef = _ := hI 62 (by simp); obtain rfl : hs = [] := List.eq_nil_of_length_eq_zero hlen; replace hT : Turned (fun _ => False) w5 W := hT; show Brings Try.prog (fun vv w' => TieS (leaf 1 n ByteArray.empty) B1 E1 (MK N bb mb gr gs R S ((B, .cells #[.int .i64 u.kind, .int .i64 u.n, .string u.name, .slice u.at_.1 u.args.length u.at_.2] 27 (0, 0)) :: (w.heap.size, .cells #[.string Tm.sInt, .int .i64 (a : Int), .int .i64 (b : Int), .int .i64 (c : Int), .int .i64 n, .string name] 139 (0, 0)) :: bx) (u :: r :: ts) w1) st MR w5 [vv] w') _; simp only [execOp, Act.eval, h62]; go_simp; show Calls Try.prog 61 _ W _
          (with_reducible refine (int61 n H64.out W).mono ?_)
          rintro e w' ⟨rfl, _, T'⟩
          exact ⟨_, rfl, hT.trans T', by rw [LT.val_eq]; rfl⟩
        case s5 =>
          refine fun hs hlen => stepG_free [59, 60, 63] [] (by kernel_rfl) rfl ?_
          intro ac W hT hI hO; have h59 : ac.tmps.getD 59 undef = _ := hI 59 (by simp); have h60 : ac.tmps.getD 60 undef = _ := hI 60 (by simp); have h63 : hs[0]? = some (ac.tmps.getD 63 undef) := hI 63 (by simp); obtain ⟨a1, rfl⟩ := List.length_eq_one_iff.1 hlen
          have e63 : a1 = ac.tmps.getD 63 undef := by simpa using h63
          obtain ⟨hT1, y1⟩ := hT; rw [e63] at y1; show Brings Try.prog (fun vv w' => TieS (leaf 1 n ByteArray.empty) B1 E1 (MK N bb mb gr gs R S ((B, .cells #[.int .i64 u.kind, .int .i64 u.n, .string u.name, .slice u.at_.1 u.args.length u.at_.2] 27 (0, 0)) :: (w.heap.size, .cells #[.string Tm.sInt, .int .i64 (a : Int), .int .i64 (b : Int), .int .i64 (c : Int), .int .i64 n, .string name] 139 (0, 0)) :: bx) (u :: r :: ts) w1) st MR w5 [a1, vv] w') _; simp only [execOp, Act.eval, h59, h60, y1]; go_simp; show Calls Try.prog 178 _ W _; refine (HTI.out W hT1).mono ?_
          rintro e w' ⟨rfl, hq⟩
          exact ⟨_, rfl, rfl, hq⟩
        case s6 =>
          refine fun hs hle => stepG_free [64] [] (by kernel_rfl) rfl ?_
          intro ac W hT hI hO; have hle : hs.length ≤ 2 := hle; have h64 : hs[1]? = some (ac.tmps.getD 64 undef) := hI 64 (by simp); have ef := TieS.val hs W hT h64; show Brings _ (fun v _ => _ ∧ v = _) _; simp only [execOp, Act.eval, ef]; go_simp
          try exact tq
        case s7 =>
          refine fun hs hle => stepG_free [64] [] (by kernel_rfl) rfl ?_
          intro ac W hT hI hO; have hle : hs.length ≤ 2 := hle; have h64 : hs[1]? = some (ac.tmps.getD 64 undef) := hI 64 (by simp); have ef := TieS.val hs W hT h64; show Brings _ (fun v _ => _ ∧ v = _) _; simp only [execOp, Act.eval, ef]; go_simp
          try exact tq
        case s8 =>
          refine fun hs hle => stepG_free [65] [] (by kernel_rfl) rfl ?_
          intro ac W hT hI hO; have hle : hs.length ≤ 2 := hle; have h65 : ac.tmps.getD 65 undef = _ := hI 65 (by simp); show Brings _ (fun v _ => _ ∧ v = _) _; simp only [execOp, Act.eval, h65]; go_simp
          try exact tq
        case s9 =>
          refine fun hs hle => stepG_free [66] [] (by kernel_rfl) rfl ?_
          intro ac W hT hI hO; have hle : hs.length ≤ 2 := hle; have h66 : ac.tmps.getD 66 undef = _ := hI 66 (by simp); show Brings _ (fun v _ => _ ∧ v = _) _; simp only [execOp, Act.eval, h66]; go_simp
          try exact tq
      case hQ =>
        intro hs vs w6 hlen hR hV; have q4 : vs 4 = .bool B1 := hV 4 (by simp); have q5 : vs 5 = .int .i64 E1 := hV 5 (by simp); simp only [List.foldl_cons, List.foldl_nil, List.setIfInBounds_toArray, List.set_cons_zero, List.set_cons_succ, q4, q5]; obtain ⟨a1, a2, rfl⟩ := list2' hlen; obtain ⟨rfl, hr2⟩ := hR; have HR2 := hid hr2; clear hlen hV q4 q5 hr2
        go_wp2_with fail
        go_ret2
        exact HR2.out.mono HSB.out
    · have o0 := op_Atom_Var
      have o1 := op_Atom_Val; have o2 := op_Atom_Int; have o3 := op_Atom_Atom
      have HMT : Hid (MR = Tm.tieM st u.bare (leaf 2 0 name : LT).bare) := by show _ = _; rw [HMR.out, if_neg (by decide), if_neg (by decide), if_neg (by decide), if_pos rfl]; rfl
      obtain ⟨B1, hB1⟩ : ∃ z, z = tieB MR := ⟨_, rfl⟩; obtain ⟨E1, hE1⟩ : ∃ z, z = tieE MR := ⟨_, rfl⟩
      have htie : ∀ W, Turned (fun _ => False) w5 W → Calls Try.prog 178 #[.pointer (some ⟨mb, 0, none⟩), .agg #[.int .i64 u.kind, .int .i64 u.n, .string u.name, .slice u.at_.1 u.args.length u.at_.2], .agg #[.int .i64 2, .int .i64 0, .string name, .slice none 0 0]] W fun e w' => e = .returned (.tuple #[.bool B1, .int .i64 E1]) ∧ MRQ (MK N bb mb gr gs R S ((B, .cells #[.int .i64 u.kind, .int .i64 u.n, .string u.name, .slice u.at_.1 u.args.length u.at_.2] 27 (0, 0)) :: (w.heap.size, .cells #[.string Tm.sAtom, .int .i64 (a : Int), .int .i64 (b : Int), .int .i64 (c : Int), .int .i64 n, .string name] 139 (0, 0)) :: bx) (u :: r :: ts) w1) st MR (.returned (.tuple #[.bool B1, .int .i64 E1])) w' := fun W T => by
        have := tie178 HN.out (HM5.out.turned0 T) ((HM5.out.turned0 T).terms u (List.mem_cons_self ..)) HSU.out (by rw [HUB.out]; exact HOX.out) (t := leaf 2 0 name) (fun p w => leafIn' (i64_lit 2 (by omega)) (i64_lit 0 (by omega)) HNS.out) (slim_leaf _ _ _); rw [← HMT.out, ← hB1, ← hE1] at this; refine this.mono ?_
        rintro e w' ⟨h, rfl⟩
        exact ⟨rfl, h⟩
      have HTI := hid htie; clear hB1 hE1 htie
      go_wp2_with fail
      refine wp_region_hsW [69, 70, 71, 72, 73, 74, 75, 76, 4, 5] [4, 5] [1, 1, 0, 0, 1, 2, 2, 2, 2, 2] [73, 74] (fun dd vv => (match dd with | 69 => vv = .pointer (some ⟨mb, 0, none⟩) | 70 => vv = .agg #[.int .i64 u.kind, .int .i64 u.n, .string u.name, .slice u.at_.1 u.args.length u.at_.2] | 71 => vv = .pointer (some ⟨w.heap.size, 5, none⟩) | 72 => vv = .string name | 75 => vv = .bool B1 | 76 => vv = .int .i64 E1 | 4 => vv = .bool B1 | 5 => vv = .int .i64 E1 | _ => True : Prop)) (TieS (leaf 2 0 name) B1 E1 (MK N bb mb gr gs R S ((B, .cells #[.int .i64 u.kind, .int .i64 u.n, .string u.name, .slice u.at_.1 u.args.length u.at_.2] 27 (0, 0)) :: (w.heap.size, .cells #[.string Tm.sAtom, .int .i64 (a : Int), .int .i64 (b : Int), .int .i64 (c : Int), .int .i64 n, .string name] 139 (0, 0)) :: bx) (u :: r :: ts) w1) st MR w5) (by kernel_rfl) rfl (by kernel_rfl) (by kernel_rfl) (by kernel_rfl) (by kernel_rfl) (fun w h => h) (fun hs w w' h T => TieS.turned0 (fun s W W' h T => h.turned0 T) hs w w' h T) ?hs ?hQ
      case hs =>
        refine ⟨?s0, ?s1, ?s2, ?s3, ?s4, ?s5, ?s6, ?s7, ?s8, ?s9, trivial⟩
        case s0 =>
          refine fun hs hle => stepG_free [] [0] (by kernel_rfl) rfl ?_
          intro ac W hT hI hO; have hle : hs.length ≤ 1 := hle; have h0 : ac.tmps.getD 0 undef = .pointer (some ⟨mb, 0, none⟩) := hO 0 (by simp); show Brings _ (fun v _ => _ ∧ v = _) _; simp only [execOp, Act.eval, h0]; go_simp
          try exact tq
        case s1 =>
          refine fun hs hle => stepG_free [] [6] (by kernel_rfl) rfl ?_
          intro ac W hT hI hO; have hle : hs.length ≤ 1 := hle; have h6 : ac.tmps.getD 6 undef = .pointer (some ⟨B, 0, none⟩) := hO 6 (by simp); show Brings _ (fun v _ => _ ∧ v = _) _; obtain ⟨⟨b0, b1, b2⟩, ⟨m0, m1, m2, m3, m4, m5⟩, r0, r1, r2, r3⟩ := HC5.out W (TieS.early hs W (by omega) hT); simp only [execOp, Act.eval, h6]; go_simp
          try exact tq
        case s2 =>
          refine fun hs hle => stepG_free [] [3] (by kernel_rfl) rfl ?_
          intro ac W hT hI hO; have hle : hs.length ≤ 0 := hle; have h3 : ac.tmps.getD 3 undef = .pointer (some ⟨w.heap.size, 0, none⟩) := hO 3 (by simp); show Brings _ (fun v _ => _ ∧ v = _) _; simp only [execOp, Act.eval, h3]; go_simp
          try exact tq
        case s3 =>
          refine fun hs hle => stepG_free [71] [] (by kernel_rfl) rfl ?_
          intro ac W hT hI hO; have hle : hs.length ≤ 0 := hle; have h71 : ac.tmps.getD 71 undef = _ := hI 71 (by simp); show Brings _ (fun v _ => _ ∧ v = _) _; obtain ⟨⟨b0, b1, b2⟩, ⟨m0, m1, m2, m3, m4, m5⟩, r0, r1, r2, r3⟩ := HC5.out W (TieS.early hs W (by omega) hT); simp only [execOp, Act.eval, h71]; go_simp
          try exact tq
        case s4 =>
          refine fun hs hlen => stepG_free [72] [] (by kernel_rfl) rfl ?_
          intro ac W hT hI hO; have h72 : ac.tmps.getD 72 undef = _ := hI 72 (by simp); obtain rfl : hs = [] := List.eq_nil_of_length_eq_zero hlen; replace hT : Turned (fun _ => False) w5 W := hT; show Brings Try.prog (fun vv w' => TieS (leaf 2 0 name) B1 E1 (MK N bb mb gr gs R S ((B, .cells #[.int .i64 u.kind, .int .i64 u.n, .string u.name, .slice u.at_.1 u.args.length u.at_.2] 27 (0, 0)) :: (w.heap.size, .cells #[.string Tm.sAtom, .int .i64 (a : Int), .int .i64 (b : Int), .int .i64 (c : Int), .int .i64 n, .string name] 139 (0, 0)) :: bx) (u :: r :: ts) w1) st MR w5 [vv] w') _; simp only [execOp, Act.eval, h72]; go_simp; show Calls Try.prog 63 _ W _
          (with_reducible refine (atom63 name HNS.out W).mono ?_)
          rintro e w' ⟨rfl, _, T'⟩
          exact ⟨_, rfl, hT.trans T', by rw [LT.val_eq]; rfl⟩
        case s5 =>
          refine fun hs hlen => stepG_free [69, 70, 73] [] (by kernel_rfl) rfl ?_
          intro ac W hT hI hO; have h69 : ac.tmps.getD 69 undef = _ := hI 69 (by simp); have h70 : ac.tmps.getD 70 undef = _ := hI 70 (by simp); have h73 : hs[0]? = some (ac.tmps.getD 73 undef) := hI 73 (by simp); obtain ⟨a1, rfl⟩ := List.length_eq_one_iff.1 hlen
          have e63 : a1 = ac.tmps.getD 73 undef := by simpa using h73
          obtain ⟨hT1, y1⟩ := hT; rw [e63] at y1; show Brings Try.prog (fun vv w' => TieS (leaf 2 0 name) B1 E1 (MK N bb mb gr gs R S ((B, .cells #[.int .i64 u.kind, .int .i64 u.n, .string u.name, .slice u.at_.1 u.args.length u.at_.2] 27 (0, 0)) :: (w.heap.size, .cells #[.string Tm.sAtom, .int .i64 (a : Int), .int .i64 (b : Int), .int .i64 (c : Int), .int .i64 n, .string name] 139 (0, 0)) :: bx) (u :: r :: ts) w1) st MR w5 [a1, vv] w') _; simp only [execOp, Act.eval, h69, h70, y1]; go_simp; show Calls Try.prog 178 _ W _; refine (HTI.out W hT1).mono ?_
          rintro e w' ⟨rfl, hq⟩
          exact ⟨_, rfl, rfl, hq⟩
        case s6 =>
          refine fun hs hle => stepG_free [74] [] (by kernel_rfl) rfl ?_
          intro ac W hT hI hO; have hle : hs.length ≤ 2 := hle; have h74 : hs[1]? = some (ac.tmps.getD 74 undef) := hI 74 (by simp); have ef := TieS.val hs W hT h74; show Brings _ (fun v _ => _ ∧ v = _) _; simp only [execOp, Act.eval, ef]; go_simp
          try exact tq
        case s7 =>
          refine fun hs hle => stepG_free [74] [] (by kernel_rfl) rfl ?_
          intro ac W hT hI hO; have hle : hs.length ≤ 2 := hle; have h74 : hs[1]? = some (ac.tmps.getD 74 undef) := hI 74 (by simp); have ef := TieS.val hs W hT h74; show Brings _ (fun v _ => _ ∧ v = _) _; simp only [execOp, Act.eval, ef]; go_simp
          try exact tq
        case s8 =>
          refine fun hs hle => stepG_free [75] [] (by kernel_rfl) rfl ?_
          intro ac W hT hI hO; have hle : hs.length ≤ 2 := hle; have h75 : ac.tmps.getD 75 undef = _ := hI 75 (by simp); show Brings _ (fun v _ => _ ∧ v = _) _; simp only [execOp, Act.eval, h75]; go_simp
          try exact tq
        case s9 =>
          refine fun hs hle => stepG_free [76] [] (by kernel_rfl) rfl ?_
          intro ac W hT hI hO; have hle : hs.length ≤ 2 := hle; have h76 : ac.tmps.getD 76 undef = _ := hI 76 (by simp); show Brings _ (fun v _ => _ ∧ v = _) _; simp only [execOp, Act.eval, h76]; go_simp
          try exact tq
      case hQ =>
        intro hs vs w6 hlen hR hV; have q4 : vs 4 = .bool B1 := hV 4 (by simp); have q5 : vs 5 = .int .i64 E1 := hV 5 (by simp); simp only [List.foldl_cons, List.foldl_nil, List.setIfInBounds_toArray, List.set_cons_zero, List.set_cons_succ, q4, q5]; obtain ⟨a1, a2, rfl⟩ := list2' hlen; obtain ⟨rfl, hr2⟩ := hR; have HR2 := hid hr2; clear hlen hV q4 q5 hr2
        go_wp2_with fail
        go_ret2
        exact HR2.out.mono HSB.out
    · have o0 := op_Comp_Var
      have o1 := op_Comp_Val; have o2 := op_Comp_Int; have o3 := op_Comp_Atom
      have hco : Calls Try.prog 179 #[.pointer (some ⟨mb, 0, none⟩), .agg #[.int .i64 u.kind, .int .i64 u.n, .string u.name, .slice u.at_.1 u.args.length u.at_.2], .agg #[.string Tm.sComp, .int .i64 (a : Int), .int .i64 (b : Int), .int .i64 (c : Int), .int .i64 n, .string name]] w5 (MRQ (MK N bb mb gr gs R S ((B, .cells #[.int .i64 u.kind, .int .i64 u.n, .string u.name, .slice u.at_.1 u.args.length u.at_.2] 27 (0, 0)) :: (w.heap.size, .cells #[.string Tm.sComp, .int .i64 (a : Int), .int .i64 (b : Int), .int .i64 (c : Int), .int .i64 n, .string name] 139 (0, 0)) :: bx) (u :: r :: ts) w1) st MR) := by
        rw [HMR.out, if_neg (by decide), if_neg (by decide), if_neg (by decide), if_neg (by decide)]
        by_cases hk : u.kind = 0
        · have hv := Tm.ownB_var (show Tm.ownB st.m u.bare = true by rw [HUB.out]; exact HOX.out) (by rw [Tm.bare_kind]; exact hk)
          rw [Tm.bare_n] at hv; exact comp179b HN.out HM5.out (List.mem_cons_self ..) hk hb1 hb12 hcR HAR.out.2 hmb HNS.out (by unfold I64; omega)
        · exact comp179a HN.out HM5.out (List.mem_cons_self ..) hk hb1 hcR HAR.out.2
      have HCO := hid hco; clear hco
      go_wp2_with (go_at_call 179; (with_reducible refine HCO.out.mono ?_); rintro e w6 h6; obtain ⟨b', E', rfl⟩ := h6.shape; have H6 := hid h6; clear h6)
      go_ret2
      exact H6.out.mono HSB.out
end
end Go.Proofs.Ytoihjobdfjajfaa
namespace Go.Proofs.Ytoihjobdfjajfaa
open Lib (hid)
open Go.RowKit Go.Maps
theorem enter157 (args : Array Value) (w : World) : (callFunc 157 args).run Try.prog w = .ok (.enter 157 args) w := by kernel_rfl
set_option maxHeartbeats 1600000 in
theorem closure157 {p O : Nat → Prop} {bb m K : Nat} {l : TL} {w : World} {x : LT} (h : BO p bb O m l w) (hx : x.In p w) (hs : slim x) (ho : Tm.ownB m x = true) (hK : w.heap[K]? = some (.cells #[.pointer (some ⟨bb, 0, none⟩)] 93 (0, 0))) :
    Calls Try.prog 157 #[.agg #[.int .i64 x.kind, .int .i64 x.n, .string x.name, .slice x.at_.1 x.args.length x.at_.2], .pointer (some ⟨K, 0, none⟩)] w fun e w' => e = .returned (.bool false) ∧ Turned (fun _ => False) w w' := by
  have hk0 := cell_of_row w K 0 _ 93 (0, 0) hK; simp only [List.getElem?_toArray, List.getElem?_cons_zero] at hk0; have T1 : Turned (fun _ => False) w (w.alloc (.cells #[.int .i64 x.kind, .int .i64 x.n, .string x.name, .slice x.at_.1 x.args.length x.at_.2] 27)) := (Turned.refl _ w).alloc _; have hnew := heap_alloc_new w (.cells #[.int .i64 x.kind, .int .i64 x.n, .string x.name, .slice x.at_.1 x.args.length x.at_.2] 27)
  have hown : Calls Try.prog 144 #[.pointer (some ⟨bb, 0, none⟩), .agg #[.int .i64 x.kind, .int .i64 x.n, .string x.name, .slice x.at_.1 x.args.length x.at_.2]] (w.alloc (.cells #[.int .i64 x.kind, .int .i64 x.n, .string x.name, .slice x.at_.1 x.args.length x.at_.2] 27)) fun e w' => e = .returned (.bool true) ∧ Turned (fun _ => False) (w.alloc (.cells #[.int .i64 x.kind, .int .i64 x.n, .string x.name, .slice x.at_.1 x.args.length x.at_.2] 27)) w' := by
    obtain ⟨sb, lv, tv, B, hO⟩ := (h.turned0 T1).bi; have := own144 B (hx.turned0 T1) hs; rw [LT.val_eq, ho] at this; exact this
  have k0 := (T1.cell0 hk0); obtain ⟨c0, c1, c2, c3, _⟩ := cells4 hnew; have HOW := hid hown; have HT1 := hid T1; clear h hx hs ho hK T1 hnew hown; go_enter Try.func157, Try.ntmps157
  go_wp2_with (go_at_call 144; (with_reducible refine HOW.out.mono ?_); rintro e w3 ⟨rfl, T3⟩; have HT3 := hid T3; clear T3)
  go_ret; exact ⟨rfl, HT1.out.trans HT3.out⟩
set_option maxHeartbeats 1600000 in
theorem indexNone177 {p : Nat → Prop} {l : List LT} {a : Option Addr} {c : Nat} {cap : Value} {w : World} (h : LT.Sl p w a c l) (hcall : ∀ x ∈ l, ∀ W, Turned (fun _ => False) w W → Calls Try.prog 157 #[.agg #[.int .i64 x.kind, .int .i64 x.n, .string x.name, .slice x.at_.1 x.args.length x.at_.2], cap] W fun e w' => e = .returned (.bool false) ∧ Turned (fun _ => False) W w') :
    Calls Try.prog 177 #[.slice a l.length c, .func (.func 157) #[] #[cap]] w fun e w' => e = .returned (.int .i64 (-1)) ∧ Turned (fun _ => False) w w' := by
  have hc1 := h.cap; have hm1 := h.max; unfold maxLen at hm1; have henter := enter157; have HL := hid h; have HC := hid hcall; clear h hcall; go_enter Try.func177, Try.ntmps177
  go_wp2_with fail
  go_loopg [8] l.length (fun g i wr => ∃ j : Nat, Hid (j + g = l.length) ∧ j ≤ l.length ∧ i = .int .i64 j ∧ Hid (Turned (fun _ => False) w wr))
  case atStart => exact ⟨0, Nat.zero_add _, Nat.zero_le _, rfl, Turned.refl _ _⟩
  case round =>
    obtain ⟨j, HG, hj, rfl, HT⟩ := hrel
    by_cases hjl : j < l.length
    · have dj : decide ((j : Int) < (l.length : Int)) = true := decide_eq_true (by omega)
      obtain ⟨x, hx⟩ : ∃ x : LT, l[j]? = some x := ⟨_, List.getElem?_eq_getElem hjl⟩; obtain ⟨b1, o1, rfl, _, k0, k1, k2, k3⟩ := (HL.out.turned0 HT.out).lies.cell hx; have HCX := hid (HC.out x (List.mem_of_getElem? hx)); clear hx
      go_wp2_with (go_at_call 157; (with_reducible refine (HCX.out wr HT.out).mono ?_); rintro e w3 ⟨rfl, T3⟩; have HT3 := hid T3; clear T3)
      go_roundg (gk - 1)
      case measure => have := HG.out; omega
      case rel => exact ⟨j + 1, show _ = _ by have := HG.out; omega, by omega, by go_num, HT.out.trans HT3.out⟩
    · obtain rfl : j = l.length := by omega
      have dj : decide ((l.length : Int) < (l.length : Int)) = false := decide_eq_false (by omega)
      go_wp2_with fail
      go_ret; exact ⟨rfl, HT.out⟩
set_option maxHeartbeats 1600000 in
theorem containsNone158 {p : Nat → Prop} {l : List LT} {a : Option Addr} {c : Nat} {cap : Value} {w : World} (h : LT.Sl p w a c l) (hcall : ∀ x ∈ l, ∀ W, Turned (fun _ => False) w W → Calls Try.prog 157 #[.agg #[.int .i64 x.kind, .int .i64 x.n, .string x.name, .slice x.at_.1 x.args.length x.at_.2], cap] W fun e w' => e = .returned (.bool false) ∧ Turned (fun _ => False) W w') :
    Calls Try.prog 158 #[.slice a l.length c, .func (.func 157) #[] #[cap]] w fun e w' => e = .returned (.bool false) ∧ Turned (fun _ => False) w w' := by
  have hi := indexNone177 h hcall; have HI := hid hi; clear h hcall hi; go_enter Try.func158, Try.ntmps158
  go_wp2_with (go_at_call 177; (with_reducible refine HI.out.mono ?_); rintro e w3 ⟨rfl, T3⟩; have HT3 := hid T3; clear T3)
  go_ret; exact ⟨rfl, HT3.out⟩
end Go.Proofs.Ytoihjobdfjajfaa
namespace Go.Proofs.Ytoihjobdfjajfaa
open Go.RowKit Go.Maps
def BM (N bb : Nat) (bx : List (Nat × Obj)) (ts : List LT) (w1 : World) (m : Nat) (tr : Tm.Trail) (W : World) : Prop :=
  ∃ (q : Nat → Prop) (l : TL) (O : Nat → Prop), (∀ k, k < N → q k) ∧ bt l = tr ∧ BO q bb O m l W ∧ (∀ k, O k → N ≤ k) ∧ Turned (fun _ => False) w1 W ∧ (∀ b ∈ bx, W.heap[b.1]? = some b.2 ∧ ¬ O b.1 ∧ ¬ q b.1) ∧ ∀ x ∈ ts, x.In q W
section
variable {N bb mb gr gs R S m : Nat} {bx bx' : List (Nat × Obj)} {ts ts' : List LT} {w1 w0 W W' : World} {tr : Tm.Trail} {st : Tm.MS} {x : LT}
theorem BM.turned0 (h : BM N bb bx ts w1 m tr W) (T : Turned (fun _ => False) W W') : BM N bb bx ts w1 m tr W' := by
  obtain ⟨q, l, O, h1, h2, h3, h4, h5, h6, h7⟩ := h; exact ⟨q, l, O, h1, h2, h3.turned0 T, h4, h5.trans T, fun b hb => ⟨(T.block _ (Array.getElem?_eq_some_iff.1 (h6 b hb).1).1 (fun f => f)).trans (h6 b hb).1, (h6 b hb).2⟩, fun x hx => (h7 x hx).turned0 T⟩
theorem BM.old (h : BM N bb bx ts w1 m tr W) : Turned (fun _ => False) w1 W := by
  obtain ⟨q, l, O, h1, h2, h3, h4, h5, h6, h7⟩ := h; exact h5
theorem BM.boxes (h : BM N bb bx ts w1 m tr W) : ∀ b ∈ bx, W.heap[b.1]? = some b.2 := by
  obtain ⟨q, l, O, h1, h2, h3, h4, h5, h6, h7⟩ := h
  exact fun b hb => (h6 b hb).1
theorem BM.terms (h : BM N bb bx ts w1 m tr W) : ∀ x ∈ ts, x.In (fun _ => True) W := by
  obtain ⟨q, l, O, h1, h2, h3, h4, h5, h6, h7⟩ := h
  exact fun x hx => (h7 x hx).mono (fun _ _ _ => trivial)
theorem BM.ok (h : BM N bb bx ts w1 m tr W) : Tm.okT m tr := by
  obtain ⟨q, l, O, h1, rfl, h3, _⟩ := h; exact h3.ok
theorem BM.most (h : BM N bb bx ts w1 m tr W) : m ≤ 65536 := by
  obtain ⟨q, l, O, h1, rfl, h3, _⟩ := h; exact h3.most
theorem BM.sub (h : BM N bb bx ts w1 m tr W) (hb : ∀ b ∈ bx', b ∈ bx) (ht : ∀ x ∈ ts', x ∈ ts) : BM N bb bx' ts' w1 m tr W := by
  obtain ⟨q, l, O, h1, h2, h3, h4, h5, h6, h7⟩ := h; exact ⟨q, l, O, h1, h2, h3, h4, h5, fun b hb' => h6 b (hb b hb'), fun x hx => h7 x (ht x hx)⟩
theorem BM.box (h : BM N bb bx ts w1 m tr W) (o : Obj) : BM N bb ((W.heap.size, o) :: bx) ts w1 m tr (W.alloc o) := by
  have T := (Turned.refl (fun _ => False) W).alloc o; have h' := h.turned0 T; obtain ⟨q, l, O, h1, h2, h3, h4, h5, h6, h7⟩ := h; refine ⟨q, l, O, h1, h2, h3.turned0 T, h4, h5.trans T, fun b hb => ?_, fun x hx => (h7 x hx).turned0 T⟩
  rcases List.mem_cons.1 hb with rfl | hb
  · exact ⟨heap_alloc_new W o, fun c => Nat.lt_irrefl _ (h3.lt _ c), fun c => Nat.lt_irrefl _ (h3.plt _ c)⟩
  · exact ⟨(T.block _ (Array.getElem?_eq_some_iff.1 (h6 b hb).1).1 (fun f => f)).trans (h6 b hb).1, (h6 b hb).2⟩
theorem BM.keepBox (h : BM N bb bx ts w1 m tr w0) (T : Turned (fun _ => False) w0 W) {g : Nat} {o : Obj} (hg : w0.heap.size ≤ g) (ho : W.heap[g]? = some o) : BM N bb ((g, o) :: bx) ts w1 m tr W := by
  have h' := h.turned0 T; obtain ⟨q, l, O, h1, h2, h3, h4, h5, h6, h7⟩ := h; refine ⟨q, l, O, h1, h2, h3.turned0 T, h4, h5.trans T, fun b hb => ?_, fun x hx => (h7 x hx).turned0 T⟩
  rcases List.mem_cons.1 hb with rfl | hb
  · exact ⟨ho, fun c => by have := h3.lt _ c; simp only [] at this; omega, fun c => by have := h3.plt _ c; simp only [] at this; omega⟩
  · exact ⟨(T.block _ (Array.getElem?_eq_some_iff.1 (h6 b hb).1).1 (fun f => f)).trans (h6 b hb).1, (h6 b hb).2⟩
theorem BM.call (hN : N = w1.heap.size) (h : BM N bb bx ts w1 m tr W) : ∃ (q O : Nat → Prop) (l : TL), BO q bb O m l W ∧ bt l = tr ∧ (∀ k, k < N → q k) ∧ (∀ x ∈ ts, x.In q W) ∧ ∀ m' l' w', After q bb O m' l' W w' → BM N bb bx ts w1 m' (bt l') w' := by
  obtain ⟨q, l, O, h1, h2, h3, h4, h5, h6, h7⟩ := h; refine ⟨q, O, l, h3, h2, h1, h7, fun m' l' w' ha => ?_⟩; obtain ⟨O', a1, a2, a3⟩ := ha; refine ⟨q, l', O', h1, rfl, a1, fun k hk => ?_, h5.step a3 (fun i hi e => by have := h4 i e; omega), fun b hb => ?_, fun x hx => LT.In.turned a3 (fun k hk hq e => h3.sep k hq e) (fun _ _ q => q) _ (h7 x hx)⟩
  · rcases Nat.lt_or_ge k W.heap.size with hh | hh
    · exact h4 k (a2 k hk hh)
    · have := h5.size; omega
  · obtain ⟨c1, c2, c3⟩ := h6 b hb
    have hlt := (Array.getElem?_eq_some_iff.1 c1).1; exact ⟨(a3.block _ hlt c2).trans c1, fun e => c2 (a2 _ e hlt), c3⟩
theorem blanks_leaf (n : Nat) : ∀ x ∈ blanks n, ∀ (p : Nat → Prop) (w : World), x.In p w := by
  intro x hx p w; obtain rfl := List.eq_of_mem_replicate hx; exact leafIn' (i64_lit 0 (by omega)) (i64_lit 0 (by omega)) (by unfold maxLen; decide)
theorem BM.matcher (h : BM N bb bx ts w1 m tr w0) (T : Turned (fun _ => False) w0 W) (hw : w1.heap.size = N)
    (hmb : W.heap[mb]? = some (.cells #[.pointer (some ⟨bb, 0, none⟩), .slice (some ⟨gr, 0, none⟩) R R, .slice (some ⟨gs, 0, none⟩) S S] 197 (0, 0)))
    (hr : Row W 27 4 (.slice (some ⟨gr, 0, none⟩) R R) R ((blanks R).flatMap LT.cells)) (hs : Row W 27 4 (.slice (some ⟨gs, 0, none⟩) S S) S ((blanks S).flatMap LT.cells))
    (h1 : w0.heap.size ≤ mb ∧ w0.heap.size ≤ gr ∧ w0.heap.size ≤ gs) (h2 : mb ≠ gr ∧ mb ≠ gs ∧ gr ≠ gs) :
    MK N bb mb gr gs R S bx ts w1 ⟨m, tr, (blanks R).map Tm.bare, (blanks S).map Tm.bare⟩ W := by
  have hsz := h.old.size; obtain ⟨q, l, O, g1, g2, g3, g4, g5, g6, g7⟩ := h; refine ⟨q, l, O, blanks R, blanks S, g1, g2, g3.turned0 T, g4, g5.trans T, hmb, ⟨hr, rfl, fun x hx => blanks_leaf R x hx _ _⟩, ⟨hs, rfl, fun x hx => blanks_leaf S x hx _ _⟩, fun g hg => ?_, h2, fun b hb => ?_, fun x hx => (g7 x hx).turned0 T⟩
  · have hg0 : w0.heap.size ≤ g := by rcases hg with rfl | rfl | rfl <;> omega
    exact ⟨by omega, fun c => by have := g3.lt _ c; omega, fun c => by have := g3.plt _ c; omega⟩
  · have hlt := (Array.getElem?_eq_some_iff.1 (g6 b hb).1).1
    exact ⟨(T.block _ hlt (fun f => f)).trans (g6 b hb).1, (g6 b hb).2.1, by omega, by omega, by omega, (g6 b hb).2.2⟩
theorem MK.done (h : MK N bb mb gr gs R S bx ts w1 st W) : ∃ (ss : List LT) (cur : Array Value), ss.map Tm.bare = st.ss ∧ Row W 27 4 (.slice (some ⟨gs, 0, none⟩) S S) S (ss.flatMap LT.cells) ∧ BM N bb ((gs, .cells cur 27 (0, 0)) :: bx) (ss ++ ts) w1 st.m st.l W := by
  obtain ⟨q, l, O, rs, ss, h1, h2, h3, h4, h5, h6, ⟨r1, r2, r3⟩, ⟨s1, s2, s3⟩, h9, h10, h11, h12⟩ := h; have s1' := s1
  rcases s1'.2 with ⟨he, _⟩ | ⟨g', cap', cur, he, hg, _⟩
  · cases he
  injection he with e1 _ e3
  injection e1 with e1
  injection e1 with e1
  subst e1 e3; refine ⟨ss, cur, s2, s1, q, l, O, h1, h2, h3, h4, h5, fun b hb => ?_, fun x hx => ?_⟩
  · rcases List.mem_cons.1 hb with rfl | hb
    · exact ⟨hg, (h9 gs (.inr (.inr rfl))).2.1, (h9 gs (.inr (.inr rfl))).2.2⟩
    · exact ⟨(h11 b hb).1, (h11 b hb).2.1, (h11 b hb).2.2.2.2.2⟩
  · rcases List.mem_append.1 hx with hx | hx
    · exact s3 x hx
    · exact h12 x hx
theorem MK.drop' (h : MK N bb mb gr gs R S bx ts w1 st W) : BM N bb bx ts w1 st.m st.l W := by
  obtain ⟨ss, cur, _, _, h⟩ := h.done; exact h.sub (fun b hb => List.mem_cons_of_mem _ hb) (fun x hx => List.mem_append_right _ hx)
end
end Go.Proofs.Ytoihjobdfjajfaa
namespace Go.Proofs.Ytoihjobdfjajfaa
open Go.RowKit Go.Maps
def sl (g n : Nat) : Value := .slice (some ⟨g, 0, none⟩) n n
structure MtS (w0 : World) (bb R S : Nat) (hs : Hist) (W : World) : Prop where
  t : Turned (fun _ => False) w0 W
  r : ∀ v, (3, v) ∈ hs → ∃ g, v = sl g R ∧ w0.heap.size ≤ g ∧ Row W 27 4 (sl g R) R ((blanks R).flatMap LT.cells)
  s : ∀ v, (6, v) ∈ hs → ∃ g, v = sl g S ∧ w0.heap.size ≤ g ∧ Row W 27 4 (sl g S) S ((blanks S).flatMap LT.cells)
  ne : ∀ g g', (3, sl g R) ∈ hs → (6, sl g' S) ∈ hs → g ≠ g'
  b : ∀ v, (7, v) ∈ hs → ∃ g g', (3, sl g R) ∈ hs ∧ (6, sl g' S) ∈ hs ∧ v = .agg #[.pointer (some ⟨bb, 0, none⟩), sl g R, sl g' S]
  x : ∀ v, (8, v) ∈ hs → ∃ mb g g', v = ptr mb ∧ (3, sl g R) ∈ hs ∧ (6, sl g' S) ∈ hs ∧ w0.heap.size ≤ mb ∧ mb ≠ g ∧ mb ≠ g' ∧ W.heap[mb]? = some (.cells #[.pointer (some ⟨bb, 0, none⟩), sl g R, sl g' S] 197 (0, 0))
  a : ∀ v, (9, v) ∈ hs → (8, v) ∈ hs
section
variable {w0 W W' : World} {bb R S : Nat} {hs : Hist}
theorem sl_inj {g g' n : Nat} (h : sl g n = sl g' n) : g = g' := by
  unfold sl at h
  injection h with h
  injection h with h
  injection h
theorem MtS.start (T : Turned (fun _ => False) w0 W) : MtS w0 bb R S [] W :=
  ⟨T, fun v h => (List.not_mem_nil h).elim, fun v h => (List.not_mem_nil h).elim, fun g g' h => (List.not_mem_nil h).elim, fun v h => (List.not_mem_nil h).elim, fun v h => (List.not_mem_nil h).elim, fun v h => (List.not_mem_nil h).elim⟩
theorem MtS.turned0 (h : MtS w0 bb R S hs W) (T : Turned (fun _ => False) W W') : MtS w0 bb R S hs W' := by
  refine ⟨h.t.trans T, fun v hv => ?_, fun v hv => ?_, h.ne, h.b, fun v hv => ?_, h.a⟩
  · obtain ⟨g, h1, h2, h3⟩ := h.r v hv
    exact ⟨g, h1, h2, h3.turned0 T⟩
  · obtain ⟨g, h1, h2, h3⟩ := h.s v hv
    exact ⟨g, h1, h2, h3.turned0 T⟩
  · obtain ⟨mb, g, g', h1, h2, h3, h4, h5, h6, h7⟩ := h.x v hv
    exact ⟨mb, g, g', h1, h2, h3, h4, h5, h6, (T.block _ (Array.getElem?_eq_some_iff.1 h7).1 (fun f => f)).trans h7⟩
theorem MtS.regs (h : MtS w0 bb R S hs W) (hno : ∀ v, (3, v) ∉ hs) (hR : R ≤ 1000) :
    MtS w0 bb R S (hs ++ [(3, sl W.heap.size R)]) (W.alloc (.cells (madeCells zeroT.cells (R * 4)) 27)) := by
  have T := (Turned.refl (fun _ => False) W).alloc (.cells (madeCells zeroT.cells (R * 4)) 27); have h' := h.turned0 T; refine ⟨h'.t, fun v hv => ?_, fun v hv => ?_, fun g g' hg hg' => ?_, fun v hv => ?_, fun v hv => ?_, fun v hv => List.mem_append_left _ (h.a v ((mem_snoc hv).elim id (fun e => absurd e.1 (by decide))))⟩
  · rcases mem_snoc hv with hv | ⟨_, e⟩
    · exact absurd hv (hno v)
    · exact ⟨_, e, h.t.size, (make_blanksT R hR W).2⟩
  · rcases mem_snoc hv with hv | ⟨e, _⟩
    · exact h'.s v hv
    · cases e
  · rcases mem_snoc hg' with hg' | ⟨e, _⟩
    · obtain ⟨k, e1, _, e3⟩ := h.s _ hg'
      have := sl_inj e1; have := e3.lt k rfl
      rcases mem_snoc hg with hg | ⟨_, e⟩
      · exact absurd hg (hno _)
      · have := sl_inj e
        omega
    · cases e
  · rcases mem_snoc hv with hv | ⟨e, _⟩
    · obtain ⟨g, g', h1, h2, h3⟩ := h'.b v hv
      exact ⟨g, g', List.mem_append_left _ h1, List.mem_append_left _ h2, h3⟩
    · cases e
  · rcases mem_snoc hv with hv | ⟨e, _⟩
    · obtain ⟨mb, g, g', h1, h2, h3, h4⟩ := h'.x v hv
      exact ⟨mb, g, g', h1, List.mem_append_left _ h2, List.mem_append_left _ h3, h4⟩
    · cases e
theorem MtS.slots (h : MtS w0 bb R S hs W) (hno : ∀ v, (6, v) ∉ hs) (hS : S ≤ 1000) :
    MtS w0 bb R S (hs ++ [(6, sl W.heap.size S)]) (W.alloc (.cells (madeCells zeroT.cells (S * 4)) 27)) := by
  have T := (Turned.refl (fun _ => False) W).alloc (.cells (madeCells zeroT.cells (S * 4)) 27); have h' := h.turned0 T; refine ⟨h'.t, fun v hv => ?_, fun v hv => ?_, fun g g' hg hg' => ?_, fun v hv => ?_, fun v hv => ?_, fun v hv => List.mem_append_left _ (h.a v ((mem_snoc hv).elim id (fun e => absurd e.1 (by decide))))⟩
  · rcases mem_snoc hv with hv | ⟨e, _⟩
    · exact h'.r v hv
    · cases e
  · rcases mem_snoc hv with hv | ⟨_, e⟩
    · exact absurd hv (hno v)
    · exact ⟨_, e, h.t.size, (make_blanksT S hS W).2⟩
  · rcases mem_snoc hg with hg | ⟨e, _⟩
    · obtain ⟨k, e1, _, e3⟩ := h.r _ hg
      have := sl_inj e1; have := e3.lt k rfl
      rcases mem_snoc hg' with hg' | ⟨_, e⟩
      · exact absurd hg' (hno _)
      · have := sl_inj e
        omega
    · cases e
  · rcases mem_snoc hv with hv | ⟨e, _⟩
    · obtain ⟨g, g', h1, h2, h3⟩ := h'.b v hv
      exact ⟨g, g', List.mem_append_left _ h1, List.mem_append_left _ h2, h3⟩
    · cases e
  · rcases mem_snoc hv with hv | ⟨e, _⟩
    · obtain ⟨mb, g, g', h1, h2, h3, h4⟩ := h'.x v hv
      exact ⟨mb, g, g', h1, List.mem_append_left _ h2, List.mem_append_left _ h3, h4⟩
    · cases e
theorem MtS.built {g g' : Nat} (h : MtS w0 bb R S hs W) (h3 : (3, sl g R) ∈ hs) (h6 : (6, sl g' S) ∈ hs) : MtS w0 bb R S (hs ++ [(7, .agg #[.pointer (some ⟨bb, 0, none⟩), sl g R, sl g' S])]) W := by
  have ne : ∀ {j : Nat} {v u : Value}, j ≠ 7 → (j, v) ∈ hs ++ [(7, u)] → (j, v) ∈ hs := fun hj hm => by
    rcases mem_snoc hm with hm | ⟨e, _⟩
    · exact hm
    · exact absurd e hj
  refine ⟨h.t, fun v hv => h.r v (ne (by decide) hv), fun v hv => h.s v (ne (by decide) hv), fun a b ha hb => h.ne a b (ne (by decide) ha) (ne (by decide) hb), fun v hv => ?_, fun v hv => ?_, fun v hv => List.mem_append_left _ (h.a v ((mem_snoc hv).elim id (fun e => absurd e.1 (by decide))))⟩
  · rcases mem_snoc hv with hv | ⟨_, e⟩
    · obtain ⟨k, k', h1, h2, h3⟩ := h.b v hv
      exact ⟨k, k', List.mem_append_left _ h1, List.mem_append_left _ h2, h3⟩
    · exact ⟨g, g', List.mem_append_left _ h3, List.mem_append_left _ h6, e⟩
  · obtain ⟨mb, k, k', h1, h2, h3, h4⟩ := h.x v (ne (by decide) hv)
    exact ⟨mb, k, k', h1, List.mem_append_left _ h2, List.mem_append_left _ h3, h4⟩
theorem MtS.boxed {g g' : Nat} (h : MtS w0 bb R S hs W) (hno : ∀ v, (8, v) ∉ hs) (h3 : (3, sl g R) ∈ hs) (h6 : (6, sl g' S) ∈ hs) : MtS w0 bb R S (hs ++ [(8, ptr W.heap.size)]) (W.alloc (.cells #[.pointer (some ⟨bb, 0, none⟩), sl g R, sl g' S] 197)) := by
  have T := (Turned.refl (fun _ => False) W).alloc (.cells #[.pointer (some ⟨bb, 0, none⟩), sl g R, sl g' S] 197); have h' := h.turned0 T
  have ne : ∀ {j : Nat} {v u : Value}, j ≠ 8 → (j, v) ∈ hs ++ [(8, u)] → (j, v) ∈ hs := fun hj hm => by
    rcases mem_snoc hm with hm | ⟨e, _⟩
    · exact hm
    · exact absurd e hj
  refine ⟨h'.t, fun v hv => h'.r v (ne (by decide) hv), fun v hv => h'.s v (ne (by decide) hv), fun a b ha hb => h.ne a b (ne (by decide) ha) (ne (by decide) hb), fun v hv => ?_, fun v hv => ?_, fun v hv => List.mem_append_left _ (h.a v ((mem_snoc hv).elim id (fun e => absurd e.1 (by decide))))⟩
  · obtain ⟨k, k', h1, h2, h3⟩ := h.b v (ne (by decide) hv)
    exact ⟨k, k', List.mem_append_left _ h1, List.mem_append_left _ h2, h3⟩
  · rcases mem_snoc hv with hv | ⟨_, e⟩
    · exact absurd hv (hno v)
    · obtain ⟨a, a1, _, a3⟩ := h.r _ h3
      obtain ⟨b, b1, _, b3⟩ := h.s _ h6; have e1 := sl_inj a1; have e2 := sl_inj b1; have l1 := a3.lt a rfl; have l2 := b3.lt b rfl; exact ⟨_, g, g', e, List.mem_append_left _ h3, List.mem_append_left _ h6, h.t.size, by omega, by omega, heap_alloc_new W _⟩
theorem MtS.assigned {v : Value} (h : MtS w0 bb R S hs W) (h8 : (8, v) ∈ hs) : MtS w0 bb R S (hs ++ [(9, v)]) W := by
  have ne : ∀ {j : Nat} {v u : Value}, j ≠ 9 → (j, v) ∈ hs ++ [(9, u)] → (j, v) ∈ hs := fun hj hm => by
    rcases mem_snoc hm with hm | ⟨e, _⟩
    · exact hm
    · exact absurd e hj
  refine ⟨h.t, fun v hv => h.r v (ne (by decide) hv), fun v hv => h.s v (ne (by decide) hv), fun a b ha hb => h.ne a b (ne (by decide) ha) (ne (by decide) hb), fun v hv => ?_, fun v hv => ?_, fun v hv => ?_⟩
  · obtain ⟨k, k', h1, h2, h3⟩ := h.b v (ne (by decide) hv)
    exact ⟨k, k', List.mem_append_left _ h1, List.mem_append_left _ h2, h3⟩
  · obtain ⟨mb, k, k', h1, h2, h3, h4⟩ := h.x v (ne (by decide) hv)
    exact ⟨mb, k, k', h1, List.mem_append_left _ h2, List.mem_append_left _ h3, h4⟩
  · rcases mem_snoc hv with hv | ⟨_, e⟩
    · exact List.mem_append_left _ (h.a v hv)
    · rw [e]; exact List.mem_append_left _ h8
theorem MtS.done {v : Value} (h : MtS w0 bb R S hs W) (hv9 : (9, v) ∈ hs) : ∃ mb gr gs, v = .pointer (some ⟨mb, 0, none⟩) ∧ W.heap[mb]? = some (.cells #[.pointer (some ⟨bb, 0, none⟩), .slice (some ⟨gr, 0, none⟩) R R, .slice (some ⟨gs, 0, none⟩) S S] 197 (0, 0)) ∧
    Row W 27 4 (.slice (some ⟨gr, 0, none⟩) R R) R ((blanks R).flatMap LT.cells) ∧ Row W 27 4 (.slice (some ⟨gs, 0, none⟩) S S) S ((blanks S).flatMap LT.cells) ∧ (w0.heap.size ≤ mb ∧ w0.heap.size ≤ gr ∧ w0.heap.size ≤ gs) ∧ (mb ≠ gr ∧ mb ≠ gs ∧ gr ≠ gs) ∧ Turned (fun _ => False) w0 W := by
  have hv := h.a v hv9; obtain ⟨mb, g, g', h1, h2, h3, h4, h5, h6, h7⟩ := h.x v hv; obtain ⟨a, a1, a2, a3⟩ := h.r _ h2; obtain ⟨b, b1, b2, b3⟩ := h.s _ h3; obtain rfl := sl_inj a1; obtain rfl := sl_inj b1; exact ⟨mb, g, g', h1, h7, a3, b3, ⟨h4, a2, b2⟩, ⟨h5, h6, h.ne _ _ h2 h3⟩, h.t⟩
end
end Go.Proofs.Ytoihjobdfjajfaa
namespace Go.Proofs.Ytoihjobdfjajfaa
open Lib (hid)
open Go.RowKit Go.Maps
theorem brings_build197 {o : Oper} {a : Act} {w : World} {F : Value → World → Prop} (x y z : Tmp) (ho : o.op = Op.build 197 #[(0, .tmp x), (1, .tmp y), (2, .tmp z)]) {bp sa sb : Option Addr} {sn sc tn tc : Nat} (hx : a.tmps.getD x undef = .pointer bp) (hy : a.tmps.getD y undef = .slice sa sn sc) (hz : a.tmps.getD z undef = .slice sb tn tc)
    (h : F (.agg #[.pointer bp, .slice sa sn sc, .slice sb tn tc]) w) : Brings Try.prog F ((execOp a.eval o).run Try.prog w) := by
  have e : ∀ q, a.eval (.tmp q) = a.tmps.getD q undef := fun _ => rfl
  unfold execOp; simp only [ho, List.map_toArray, List.map_cons, List.map_nil, e, hx, hy, hz]; go_simp; exact h
theorem run_copy_zero (w : World) (ty : TypeId) (a b : Option Addr) (n m d : Nat) : (Builtin.copy_ #[22, 22] ty #[.slice a n m, .slice b 0 d]).run Try.prog w = .ok (.int .i64 0) w := by
  have hl : ∀ a : Addr, (loadCells a 0).run Try.prog w = .ok #[] w := fun a => run_loadCells_list (P := Try.prog) w a [] (fun j v h => by simp at h)
  have hst : ∀ a : Addr, (storeCells a []).run Try.prog w = .ok () w := fun a => rfl
  cases a <;> cases b <;> simp [Builtin.copy_, run_underlying Try.underlying22, Builtin.lenOf, Builtin.firstCells, goInt, hl, hst]
section
variable {N bb mb gr gs R S m : Nat} {bx : List (Nat × Obj)} {ts : List LT} {w1 w W : World} {tr : Tm.Trail} {st st' : Tm.MS} {x : LT}
theorem MK.mark (h : MK N bb mb gr gs R S bx ts w1 st W) : Calls Try.prog 111 #[.pointer (some ⟨bb, 0, none⟩)] W fun e w' => e = .returned (.int .i64 st.l.length) ∧ Turned (fun _ => False) W w' := by
  obtain ⟨q, l, O, rs, ss, h1, h2, h3, _⟩ := h; rw [← h2, bt_length]; exact markO111 h3
theorem MK.copyIn (hN : N = w1.heap.size) (h : MK N bb mb gr gs R S bx ts w1 st W) (hx : x ∈ ts) (hR : x.args.length ≤ R) :
    ∃ w', (∀ ty, (Builtin.copy_ #[22, 22] ty #[.slice (some ⟨gr, 0, none⟩) R R, .slice x.at_.1 x.args.length x.at_.2]).run Try.prog W = .ok (.int .i64 x.args.length) w') ∧ MK N bb mb gr gs R S bx ts w1 ⟨st.m, st.l, Tm.putAt st.rs 0 x.bare.args, st.ss⟩ w' := by
  rcases Nat.eq_zero_or_pos x.args.length with h0 | h0
  · have he : x.bare.args = [] := by rw [Tm.bare_args, Tm.bares_eq, List.length_eq_zero_iff.1 h0]; rfl
    refine ⟨W, fun ty => by rw [h0]; exact run_copy_zero W ty _ _ _ _ _, ?_⟩; rw [he]; unfold Tm.putAt; simp; exact h
  · obtain ⟨ad, w', had, hcp, hmk⟩ := h.copyArgs hN hx (c := 0) (by omega) h0
    rw [Nat.zero_mul, Nat.sub_zero] at hcp; rw [had]; exact ⟨w', hcp, hmk⟩
theorem BM.undo (hN : N = w1.heap.size) (h : BM N bb bx ts w1 m tr W) (n : Nat) (hn : n ≤ tr.length) : Calls Try.prog 101 #[.pointer (some ⟨bb, 0, none⟩), .int .i64 n] W fun e w' => e = .returned (.bool true) ∧ BM N bb bx ts w1 m (tr.drop (tr.length - n)) w' := by
  obtain ⟨q, O, l, h3, rfl, _, _, hk⟩ := h.call hN; rw [bt_length] at hn ⊢; refine (undoO101 h3 n hn).mono ?_
  rintro e w' ⟨rfl, ha⟩
  refine ⟨rfl, ?_⟩; have := hk _ _ w' ha
  rwa [show bt (l.drop (l.length - n)) = (bt l).drop (l.length - n) from by unfold bt; rw [List.map_drop]] at this
end
def MatchQ (N bb S m : Nat) (bx : List (Nat × Obj)) (ts : List LT) (w1 : World) (tr : Tm.Trail) : Tm.MR → Ending → World → Prop
  | .go st', e, w' => ∃ (gs : Nat) (ss : List LT) (cur : Array Value), e = .returned (.tuple #[.slice (some ⟨gs, 0, none⟩) S S, .bool true, .int .i64 0]) ∧ ss.map Tm.bare = st'.ss ∧ Row w' 27 4 (.slice (some ⟨gs, 0, none⟩) S S) S (ss.flatMap LT.cells) ∧ BM N bb ((gs, .cells cur 27 (0, 0)) :: bx) (ss ++ ts) w1 st'.m st'.l w'
  | .stop E m', e, w' => e = .returned (.tuple #[.slice none 0 0, .bool false, .int .i64 E]) ∧ BM N bb bx ts w1 m' tr w'
structure RunOk (R S : Nat) (tr : Tm.Trail) (L : List Tm.Stp) (Inv : Nat → Tm.MS → Prop) : Prop where
  step : ∀ i s st, L[i]? = some s → Inv i st → ∃ (op name : ByteArray) (a b c : Nat) (n : Int), s = ⟨op, (a : Int), (b : Int), (c : Int), n, name⟩ ∧ a < R ∧ name.size ≤ maxLen ∧ Tm.ownB st.m (st.rs.getD a (Tm.V 0)) = true ∧ OneOk R S st op name b c n
  next : ∀ i s st st', L[i]? = some s → Inv i st → Tm.stepM st s = .go st' → Inv (i + 1) st'
  pre : ∀ i st, Inv i st → ∃ a, st.l = a ++ tr
section
variable {N bb mb gr gs R S m : Nat} {bx : List (Nat × Obj)} {ts : List LT} {w1 w W : World} {tr : Tm.Trail} {st st' : Tm.MS} {x : LT} {L : List Tm.Stp} {Inv : Nat → Tm.MS → Prop}
set_option maxRecDepth 100000 in
set_option maxHeartbeats 3200000 in
theorem match121 {aL : Option Addr} {cL : Nat} (hN : N = w1.heap.size) (h : BM N bb bx ts w1 m tr w) (hx : x ∈ ts) (hR : x.args.length ≤ R ∧ R ≤ 1000) (hS : S ≤ 1000) (hL64 : L.length ≤ 65536)
    (hrow : ∀ W, (∀ b ∈ bx, W.heap[b.1]? = some b.2) → Row W 139 6 (.slice aL L.length cL) L.length (L.flatMap stC))
    (hgood : ∀ W, (∀ b ∈ bx, W.heap[b.1]? = some b.2) → Calls Try.prog 95 #[.agg #[.int .i64 (x.args.length : Int), .int .i64 (S : Int), .int .i64 (R : Int), .slice aL L.length cL]] W fun e w' => e = .returned (.bool true) ∧ Turned (fun _ => False) W w')
    (hown : ∀ y ∈ x.args, Tm.ownB m y = true) (hrun : RunOk R S tr L Inv) (h0 : Inv 0 ⟨m, tr, Tm.putAt ((blanks R).map Tm.bare) 0 x.bare.args, (blanks S).map Tm.bare⟩) :
    Calls Try.prog 121 #[.pointer (some ⟨bb, 0, none⟩), .agg #[.int .i64 (x.args.length : Int), .int .i64 (S : Int), .int .i64 (R : Int), .slice aL L.length cL], .slice x.at_.1 x.args.length x.at_.2] w (MatchQ N bb S m bx ts w1 tr (Tm.runM ⟨m, tr, Tm.putAt ((blanks R).map Tm.bare) 0 x.bare.args, (blanks S).map Tm.bare⟩ L)) := by
  have hb2 : BM N bb ((w.heap.size + 1, .cells #[.int .i64 (x.args.length : Int), .int .i64 (S : Int), .int .i64 (R : Int), .slice aL L.length cL] 104 (0, 0)) :: (w.heap.size, .cells #[.pointer (some ⟨bb, 0, none⟩)] 93 (0, 0)) :: bx) ts w1 m tr ((w.alloc (.cells #[.pointer (some ⟨bb, 0, none⟩)] 93)).alloc (.cells #[.int .i64 (x.args.length : Int), .int .i64 (S : Int), .int .i64 (R : Int), .slice aL L.length cL] 104)) := by
    have := (h.box (.cells #[.pointer (some ⟨bb, 0, none⟩)] 93)).box (.cells #[.int .i64 (x.args.length : Int), .int .i64 (S : Int), .int .i64 (R : Int), .slice aL L.length cL] 104); rw [show (w.alloc (.cells #[.pointer (some ⟨bb, 0, none⟩)] 93)).heap.size = w.heap.size + 1 by simp] at this; exact this
  obtain ⟨w2, hw2⟩ : ∃ z, z = (w.alloc (.cells #[.pointer (some ⟨bb, 0, none⟩)] 93)).alloc (.cells #[.int .i64 (x.args.length : Int), .int .i64 (S : Int), .int .i64 (R : Int), .slice aL L.length cL] 104) := ⟨_, rfl⟩; rw [← hw2] at hb2; obtain ⟨MR, hMR⟩ : ∃ z, z = Tm.runM ⟨m, tr, Tm.putAt ((blanks R).map Tm.bare) 0 x.bare.args, (blanks S).map Tm.bare⟩ L := ⟨_, rfl⟩; rw [← hMR]
  have hcx : ∀ W, Turned (fun _ => False) w2 W → (W.cell? ⟨w.heap.size + 1, 0, none⟩ = some (.int .i64 (x.args.length : Int)) ∧ W.cell? ⟨w.heap.size + 1, 1, none⟩ = some (.int .i64 (S : Int)) ∧ W.cell? ⟨w.heap.size + 1, 2, none⟩ = some (.int .i64 (R : Int)) ∧ W.cell? ⟨w.heap.size + 1, 3, none⟩ = some (.slice aL L.length cL)) ∧ W.cell? ⟨w.heap.size, 0, none⟩ = some (.pointer (some ⟨bb, 0, none⟩)) := fun W T => by
    have hbx := (hb2.turned0 T).boxes; have c1 := cells4 (hbx _ (List.mem_cons_self ..)); have c2 := cell_of_row W w.heap.size 0 _ 93 (0, 0) (hbx _ (List.mem_cons_of_mem _ (List.mem_cons_self ..))); exact ⟨⟨c1.1, c1.2.1, c1.2.2.1, c1.2.2.2.1⟩, c2⟩
  have hmf : ∀ (fn : Fn) (first cap : Array Value) (w : World), (Instr.makeFunc fn first cap).run Try.prog w = .ok (.func fn first cap) w := fun _ _ _ _ => rfl
  have hbd : ∀ W, Turned (fun _ => False) w2 W → ∀ b ∈ bx, W.heap[b.1]? = some b.2 := fun W T b hb => (hb2.turned0 T).boxes b (List.mem_cons_of_mem _ (List.mem_cons_of_mem _ hb))
  have hxl := (hb2.terms x hx).len
  have hxa : x.args.length ≤ 1000 := by omega
  have hno : ∀ W, Turned (fun _ => False) w2 W → Calls Try.prog 158 #[.slice x.at_.1 x.args.length x.at_.2, .func (.func 157) #[] #[.pointer (some ⟨w.heap.size, 0, none⟩)]] W fun e w' => e = .returned (.bool false) ∧ Turned (fun _ => False) W w' := fun W T => by
    refine containsNone158 (((hb2.turned0 T).terms x hx).sl) (fun y hy W' T' => ?_); have hb' := hb2.turned0 (T.trans T'); have hK := hb'.boxes _ (List.mem_cons_of_mem _ (List.mem_cons_self ..)); obtain ⟨q, O, l, g1, g2, g3, g4, _⟩ := hb'.call hN; refine closure157 g1 ((LT.ins_iff _).1 (g4 x hx).args y hy) (good_slim ?_) (by rw [← ownB_bare, ownB_bare]; exact hown y hy) hK; have := hown y hy; rw [← ownB_bare] at this; rw [← goodB_bare]; exact (Tm.ownB_iff.1 this).1
  have HB2 := hid hb2; have HW2 := hid hw2; have HCX := hid hcx; have HBD := hid hbd; have HNO := hid hno; have HGD := hid hgood; have HROW := hid hrow; have HN := hid hN; have HXT := hid hx; have HRS : Hid (R ≤ 1000 ∧ S ≤ 1000) := ⟨hR.2, hS⟩; have HXR := hid hR.1; have HRUN := hid hrun; have HI0 := hid h0; have HMR := hid hMR; obtain ⟨⟨k0, k1, k2, k3⟩, j0⟩ := hcx w2 (Turned.refl _ _); clear h hb2 hw2 hcx hbd hno hgood hrow hN hx hR hS hrun h0 hMR hown hxl; go_enter Try.func121, Try.ntmps121
  go_wp2_with fail
  rw [← HW2.out]
  go_wp2_with (first
    | (go_at_call 158; have HT3 := HT3; (with_reducible refine (HNO.out _ HT3.out).mono ?_); rintro e w4 ⟨rfl, T4⟩; have HT4 := hid (HT3.out.trans T4); clear T4)
    | (go_at_call 95; (with_reducible refine (HGD.out w2 (HBD.out w2 (Turned.refl _ _))).mono ?_); rintro e w3 ⟨rfl, T3⟩; have HT3 := hid T3; clear T3; obtain ⟨⟨k0, k1, k2, k3⟩, j0⟩ := HCX.out w3 HT3.out))
  refine wp_region_k [36, 37, 38, 39, 40, 41, 42, 43, 44, 10] [3, 6, 7, 8, 9] [(39, 3), (42, 6), (43, 7), (44, 8), (10, 9)] (fun dd vv => (match dd with | 36 => vv = .pointer (some ⟨bb, 0, none⟩) | 37 => vv = .pointer (some ⟨w.heap.size + 1, 2, none⟩) | 38 => vv = .int .i64 (R : Int) | 40 => vv = .pointer (some ⟨w.heap.size + 1, 1, none⟩) | 41 => vv = .int .i64 (S : Int) | _ => True : Prop)) (MtS w4 bb R S) (by kernel_rfl) rfl (by kernel_rfl) (by kernel_rfl) (fun W T => MtS.start T) (fun hs W W' h T => h.turned0 T) ?hs ?hQ
  case hs =>
    refine ⟨?s0, ?s1, ?s2, ?s3, ?s4, ?s5, ?s6, ?s7, ?s8, ?s9, trivial⟩
    case s0 =>
      refine fun hs hl => stepG_free [] [3] (by kernel_rfl) rfl ?_
      intro ac W hT hI hO; have h3 : ac.tmps.getD 3 undef = .pointer (some ⟨w.heap.size, 0, none⟩) := hO 3 (by simp); show Brings _ (fun v _ => _ ∧ v = _) _; obtain ⟨⟨k0, k1, k2, k3⟩, j0⟩ := HCX.out W (HT4.out.trans hT.t); simp only [execOp, Act.eval, h3]; go_simp
      try exact tq
    case s1 =>
      refine fun hs hl => stepG_free [] [4] (by kernel_rfl) rfl ?_
      intro ac W hT hI hO; have h4 : ac.tmps.getD 4 undef = .pointer (some ⟨w.heap.size + 1, 0, none⟩) := hO 4 (by simp); show Brings _ (fun v _ => _ ∧ v = _) _; simp only [execOp, Act.eval, h4]; go_simp
      try exact tq
    case s2 =>
      refine fun hs hl => stepG_free [37] [] (by kernel_rfl) rfl ?_
      intro ac W hT hI hO; have h37 : ac.tmps.getD 37 undef = _ := hI 37 (by simp); show Brings _ (fun v _ => _ ∧ v = _) _; obtain ⟨⟨k0, k1, k2, k3⟩, j0⟩ := HCX.out W (HT4.out.trans hT.t); simp only [execOp, Act.eval, h37]; go_simp
      try exact tq
    case s3 =>
      refine fun hs hno hl => stepG_free [38] [] (by kernel_rfl) rfl ?_
      intro ac W hT hI hO; have h38 : ac.tmps.getD 38 undef = _ := hI 38 (by simp); show Brings Try.prog (fun vv w' => MtS w4 bb R S (hs ++ [(3, vv)]) w') _; have hmk := (make_blanksT R HRS.out.1 W).1; simp only [execOp, Act.eval, h38]; go_simp; exact hT.regs hno HRS.out.1
    case s4 =>
      refine fun hs hl => stepG_free [] [4] (by kernel_rfl) rfl ?_
      intro ac W hT hI hO; have h4 : ac.tmps.getD 4 undef = .pointer (some ⟨w.heap.size + 1, 0, none⟩) := hO 4 (by simp); show Brings _ (fun v _ => _ ∧ v = _) _; simp only [execOp, Act.eval, h4]; go_simp
      try exact tq
    case s5 =>
      refine fun hs hl => stepG_free [40] [] (by kernel_rfl) rfl ?_
      intro ac W hT hI hO; have h40 : ac.tmps.getD 40 undef = _ := hI 40 (by simp); show Brings _ (fun v _ => _ ∧ v = _) _; obtain ⟨⟨k0, k1, k2, k3⟩, j0⟩ := HCX.out W (HT4.out.trans hT.t); simp only [execOp, Act.eval, h40]; go_simp
      try exact tq
    case s6 =>
      refine fun hs hno hl => stepG_free [41] [] (by kernel_rfl) rfl ?_
      intro ac W hT hI hO; have h41 : ac.tmps.getD 41 undef = _ := hI 41 (by simp); show Brings Try.prog (fun vv w' => MtS w4 bb R S (hs ++ [(6, vv)]) w') _; have hmk := (make_blanksT S HRS.out.2 W).1; simp only [execOp, Act.eval, h41]; go_simp; exact hT.slots hno HRS.out.2
    case s7 =>
      refine fun hs hno hl => stepG_free [36, 39, 42] [] (by kernel_rfl) rfl ?_
      intro ac W hT hI hO; have h36 : ac.tmps.getD 36 undef = _ := hI 36 (by simp); have h39 : (3, ac.tmps.getD 39 undef) ∈ hs := hI 39 (by simp); have h42 : (6, ac.tmps.getD 42 undef) ∈ hs := hI 42 (by simp); obtain ⟨g, e39, _, _⟩ := hT.r _ h39; obtain ⟨g', e42, _, _⟩ := hT.s _ h42; rw [e39] at h39; rw [e42] at h42; unfold sl at e39 e42; show Brings Try.prog (fun vv w' => MtS w4 bb R S (hs ++ [(7, vv)]) w') _; exact brings_build197 36 39 42 rfl h36 e39 e42 (hT.built h39 h42)
    case s8 =>
      refine fun hs hno hl => stepG_free [43] [] (by kernel_rfl) rfl ?_
      intro ac W hT hI hO; have h43 : (7, ac.tmps.getD 43 undef) ∈ hs := hI 43 (by simp); obtain ⟨g, g', a1, a2, e43⟩ := hT.b _ h43; unfold sl at e43; show Brings Try.prog (fun vv w' => MtS w4 bb R S (hs ++ [(8, vv)]) w') _; simp only [execOp, Act.eval, e43]; go_simp; exact hT.boxed hno a1 a2
    case s9 =>
      refine fun hs hno hl => stepG_free [44] [] (by kernel_rfl) rfl ?_
      intro ac W hT hI hO; have h44 : (8, ac.tmps.getD 44 undef) ∈ hs := hI 44 (by simp); obtain ⟨mb, g, g', e44, _⟩ := hT.x _ h44; have h44' := h44; rw [e44] at h44'; unfold ptr at e44; show Brings Try.prog (fun vv w' => MtS w4 bb R S (hs ++ [(9, vv)]) w') _; simp only [execOp, Act.eval, e44]; go_simp; exact hT.assigned h44'
  case hQ =>
    intro hs vs w5 hall huniq hR hV; have q10 : (9, vs 10) ∈ hs := hV 10 (by simp); obtain ⟨mb, gr, gs, hB, hmb, hrr, hss, hn1, hn2, T5⟩ := hR.done q10; simp only [List.foldl_cons, List.foldl_nil, List.setIfInBounds_toArray, List.set_cons_zero, List.set_cons_succ, hB]; have hmk5 := (HB2.out.turned0 HT4.out).matcher T5 HN.out.symm hmb hrr hss hn1 hn2; obtain ⟨w6, hcp, hmk6⟩ := hmk5.copyIn HN.out HXT.out HXR.out; have HM6 := hid hmk6; obtain ⟨b0, b1, b2, _⟩ := rec3b hmk5.mbox; have hj5 := (HCX.out w5 (HT4.out.trans T5)).2; have hj6 := cell_of_row w6 w.heap.size 0 _ 93 (0, 0) (hmk6.boxes _ (List.mem_cons_of_mem _ (List.mem_cons_self ..))); simp only [List.getElem?_toArray, List.getElem?_cons_zero] at hj6; clear hall huniq hR hV q10 hB hmb hrr hss hn1 hn2 hmk5 hmk6
    go_wp2_with (go_at_call 111; (with_reducible refine (HM6.out.mark).mono ?_); rintro e w7 ⟨rfl, T7⟩; have HM7 := hid (HM6.out.turned0 T7); clear T7; obtain ⟨k0, k1, k2, k3, _⟩ := cells4 (HM7.out.boxes _ (List.mem_cons_self ..)))
    go_loopg [56] L.length (fun k i wr => ∃ (j : Nat) (st : Tm.MS), Hid (j + k = L.length) ∧ j ≤ L.length ∧ i = .int .i64 j ∧ Hid (Inv j st ∧ MR = Tm.runM st (L.drop j)) ∧ Hid (MK N bb mb gr gs R S ((w.heap.size + 1, .cells #[.int .i64 (x.args.length : Int), .int .i64 (S : Int), .int .i64 (R : Int), .slice aL L.length cL] 104 (0, 0)) :: (w.heap.size, .cells #[.pointer (some ⟨bb, 0, none⟩)] 93 (0, 0)) :: bx) ts w1 st wr))
    case atStart => exact ⟨0, _, Nat.zero_add _, Nat.zero_le _, rfl, ⟨HI0.out, HMR.out⟩, HM7.out⟩
    case round =>
      obtain ⟨j, st, HG, hj, rfl, HIJ, HMJ⟩ := hrel
      have hbd := fun b hb => HMJ.out.boxes b (List.mem_cons_of_mem _ (List.mem_cons_of_mem _ hb))
      by_cases hjl : j < L.length
      · have dj : decide ((j : Int) < (L.length : Int)) = true := decide_eq_true (by omega)
        obtain ⟨s, hs⟩ : ∃ s : Tm.Stp, L[j]? = some s := ⟨_, List.getElem?_eq_getElem hjl⟩; obtain ⟨op, nm, sa, sb, sc, sn, hse, hsa, hnm, hso, hop⟩ := HRUN.out.step j s st hs HIJ.out.1; have hrw := HROW.out wr hbd; obtain ⟨gL, capL, hgL⟩ := hrw.shape_pos (by omega)
        have haL : aL = some ⟨gL, 0, none⟩ := by injection hgL
        subst haL; obtain ⟨n0, n1, n2, n3, n4, n5⟩ := step_cells hrw hs; subst hse; simp only [] at n0 n1 n2 n3 n4 n5
        have hdrop : L.drop j = ⟨op, (sa : Int), (sb : Int), (sc : Int), sn, nm⟩ :: L.drop (j + 1) := by
          rw [List.drop_eq_getElem_cons hjl]; congr 1; have := List.getElem?_eq_getElem hjl; rw [hs] at this; exact (Option.some.inj this).symm
        have hone := fun W (T : Turned (fun _ => False) wr W) => one159 (op := op) (name := nm) (a := sa) (b := sb) (c := sc) (n := sn) HN.out (HMJ.out.turned0 T) hsa (by have := HRS.out.1; omega) (by have := HRS.out.2; omega) hnm hso hop
        have HONE := hid hone; have HS := hid hs; have HDR := hid hdrop; have HNX := hid (HRUN.out.next j ⟨op, (sa : Int), (sb : Int), (sc : Int), sn, nm⟩ st); have HPR := hid (HRUN.out.pre j st HIJ.out.1); clear hbd hrw hgL hs hsa hnm hso hop hdrop hone; obtain ⟨M, hM⟩ : ∃ z, z = Tm.stepM st ⟨op, (sa : Int), (sb : Int), (sc : Int), sn, nm⟩ := ⟨_, rfl⟩; have HM := hid hM
        cases M with
        | go st'' =>
          have hrun : MR = Tm.runM st'' (L.drop (j + 1)) := by
            rw [HIJ.out.2, HDR.out, Tm.runM, ← HM.out]
          have HR := hid hrun; clear hM hrun
          go_wp2_with (go_at_call 159; have h1 := HONE.out _ ((Turned.refl (fun _ => False) wr).alloc (.cells #[.string op, .int .i64 (sa : Int), .int .i64 (sb : Int), .int .i64 (sc : Int), .int .i64 sn, .string nm] 139)); rw [← HM.out] at h1; (with_reducible refine h1.mono ?_); rintro e w8 ⟨rfl, h8⟩; have HM8 := hid h8; clear h8 h1)
          go_roundg (gk - 1)
          case measure => have := HG.out; omega
          case rel => exact ⟨j + 1, st'', show _ = _ by have := HG.out; omega, by omega, by go_num, ⟨HNX.out st'' HS.out HIJ.out.1 HM.out.symm, HR.out⟩, HM8.out⟩
        | stop E m' =>
          have hrun : MR = .stop E m' := by
            rw [HIJ.out.2, HDR.out, Tm.runM, ← HM.out]
          have HR := hid hrun; have h1 := HONE.out _ ((Turned.refl (fun _ => False) wr).alloc (.cells #[.string op, .int .i64 (sa : Int), .int .i64 (sb : Int), .int .i64 (sc : Int), .int .i64 sn, .string nm] 139)); rw [← HM.out] at h1; have H1 := hid h1; clear hM hrun h1
          go_wp2_with fail
          refine H1.out.mono ?_
          rintro e w8 ⟨b, st2, rfl, hb, hm2, ⟨a1, ha1⟩, h8⟩
          obtain ⟨a2, ha2⟩ := HPR.out; have hb8 := h8.drop'; have hj8 := cell_of_row w8 w.heap.size 0 _ 93 (0, 0) (hb8.boxes _ (List.mem_cons_of_mem _ (List.mem_cons_self ..))); simp only [List.getElem?_toArray, List.getElem?_cons_zero] at hj8; have hun := hb8.undo HN.out tr.length (by rw [ha1, ha2]; simp only [List.length_append]; omega); rw [show List.drop (st2.l.length - tr.length) st2.l = tr by rw [ha1, ha2, ← List.append_assoc]; exact List.drop_left' (by simp only [List.length_append]; omega), hm2] at hun; have HUN := hid hun; have HB := hid hb; clear hb8 h8 ha1 ha2 hun hb hm2
          cases b with
          | false =>
            go_wp2_with (go_at_call 101; (with_reducible refine HUN.out.mono ?_); rintro e w9 ⟨rfl, h9⟩; have H9 := hid h9; clear h9)
            go_ret3
            rw [HR.out]; exact ⟨rfl, H9.out.sub (fun b h => List.mem_cons_of_mem _ (List.mem_cons_of_mem _ h)) (fun x h => h)⟩
          | true =>
            have bE : (E != 0) = true := by have := HB.out rfl; simp [this]
            go_wp2_with (go_at_call 101; (with_reducible refine HUN.out.mono ?_); rintro e w9 ⟨rfl, h9⟩; have H9 := hid h9; clear h9)
            go_ret3
            rw [HR.out]; exact ⟨rfl, H9.out.sub (fun b h => List.mem_cons_of_mem _ (List.mem_cons_of_mem _ h)) (fun x h => h)⟩
      · obtain rfl : j = L.length := by omega
        have dj : decide ((L.length : Int) < (L.length : Int)) = false := decide_eq_false (by omega)
        have hrun : MR = .go st := by rw [HIJ.out.2, List.drop_length]; rfl
        have HR := hid hrun; obtain ⟨b0, b1, b2, _⟩ := rec3b HMJ.out.mbox; clear hbd hrun
        go_wp2_with fail
        go_ret3
        rw [HR.out]; obtain ⟨ss, cur, g1, g2, g3⟩ := HMJ.out.done; refine ⟨gs, ss, cur, rfl, g1, g2, g3.sub (fun b h => ?_) (fun x h => h)⟩
        rcases List.mem_cons.1 h with rfl | h
        · exact List.mem_cons_self ..
        · exact List.mem_cons_of_mem _ (List.mem_cons_of_mem _ (List.mem_cons_of_mem _ h))
end
end Go.Proofs.Ytoihjobdfjajfaa
namespace Go.Proofs.Ytoihjobdfjajfaa
namespace Tm
theorem stepM_m {st st' : MS} {s : Stp} (h : stepM st s = .go st') : st'.m = st.m ∨ (¬ s.op = sVar ∧ ¬ s.op = sVal ∧ ¬ s.op = sInt ∧ ¬ s.op = sAtom ∧ st'.m = st.m + s.b.toNat) := by
  unfold stepM at h; simp only [] at h
  split at h
  · injection h with h; subst h; exact .inl rfl
  split at h
  · unfold valM at h
    split at h
    · injection h with h; subst h; exact .inl rfl
    · cases h
  split at h
  · unfold tieM at h
    split at h
    · split at h
      · injection h with h; subst h; exact .inl rfl
      · cases h
    · split at h
      · injection h with h; subst h; exact .inl rfl
      · cases h
  split at h
  · unfold tieM at h
    split at h
    · split at h
      · injection h with h; subst h; exact .inl rfl
      · cases h
    · split at h
      · injection h with h; subst h; exact .inl rfl
      · cases h
  · rename_i n1 n2 n3 n4
    unfold compM at h
    split at h
    · split at h
      · split at h
        · injection h with h; subst h; exact .inr ⟨n1, n2, n3, n4, rfl⟩
        · cases h
      · cases h
    · split at h
      · injection h with h; subst h; exact .inl rfl
      · cases h
end Tm
open Go.RowKit Go.Maps
def HInv (t : LT) (tr : Tm.Trail) (i : Nat) (st : Tm.MS) : Prop := i ≤ Tm.sizes t.args ∧ Tm.MInv t i st ∧ (∃ a, st.l = a ++ tr) ∧ st.m + (Tm.sizes t.args - Tm.cb t.args i) ≤ 65536
theorem steps_at {t : LT} {i : Nat} {s : Tm.Stp} (h : (Tm.steps t.vars t.args (Tm.sizes t.args))[i]? = some s) : ∃ x : LT, (Tm.regs t.args)[i]? = some x ∧ s = Tm.stepX t.vars t.args i x := by
  unfold Tm.steps at h; rw [List.getElem?_map] at h; obtain ⟨k, hk, hs⟩ := Option.map_eq_some_iff.1 h; have hi := (List.getElem?_eq_some_iff.1 hk).1; rw [List.length_range] at hi; rw [List.getElem?_range hi] at hk; obtain rfl := Option.some.inj hk; obtain ⟨x, hx⟩ : ∃ x, (Tm.regs t.args)[i]? = some x := ⟨_, List.getElem?_eq_getElem (by rw [Tm.regs_length]; exact hi)⟩; refine ⟨x, hx, ?_⟩; rw [← hs]; unfold Tm.stepAt; rw [hx]
theorem runOk_head {t : LT} {tr : Tm.Trail} (hg : goodB t = true) (h64 : ∀ x ∈ Tm.regs t.args, I64 x.n ∧ x.name.size ≤ maxLen) : RunOk (Tm.sizes t.args) t.vars.length tr (Tm.steps t.vars t.args (Tm.sizes t.args)) (HInv t tr) := by
  refine ⟨fun i s st hs I => ?_, fun i s st st' hs I hst => ?_, fun i st I => I.2.2.1⟩
  · obtain ⟨x, hx, rfl⟩ := steps_at hs
    obtain ⟨c1, c2, c3, c4⟩ := Tm.cb_next hx; obtain ⟨I1, I2, I3, I4⟩ := I
    have hmem : x ∈ t.flat := by rw [Tm.flat_eq]; exact List.mem_cons_of_mem _ (Tm.regs_flats x (List.mem_of_getElem? hx))
    have hone : goodOneB x = true := by
      unfold goodB at hg; simp only [Bool.and_eq_true, decide_eq_true_eq, List.all_eq_true] at hg; exact hg.2.2 x hmem
    have hil : i < Tm.sizes t.args := by have := (List.getElem?_eq_some_iff.1 hx).1; rwa [Tm.regs_length] at this
    have hown : Tm.ownB st.m (st.rs.getD i (Tm.V 0)) = true := by
      have := I2.rl; rw [List.getD_eq_getElem?_getD, List.getElem?_eq_getElem (by omega)]; exact I2.own i _ c2 (List.getElem?_eq_getElem (by omega))
    obtain ⟨g1, g2⟩ := h64 x (List.mem_of_getElem? hx)
    have he : ByteArray.empty.size ≤ maxLen := by unfold maxLen; decide
    unfold Tm.stepX
    by_cases h0 : x.kind = 0
    · rw [if_pos h0]
      have hv : x.n ∈ t.vars := (Tm.mem_fold _ _ _).2 (.inr ⟨_, hmem, h0, rfl⟩); have hp := Tm.posOf_mem hv; have hpl := (List.getElem?_eq_some_iff.1 hp).1
      by_cases hm : x.n ∈ Tm.met t.args i
      · rw [if_pos hm]
        refine ⟨Tm.sVal, ByteArray.empty, i, Tm.posOf t.vars x.n, 0, 0, rfl, hil, he, hown, .inr (.inl ⟨rfl, hpl, ?_⟩)⟩; have := I2.sl; rw [List.getD_eq_getElem?_getD, List.getElem?_eq_getElem (by omega)]; exact I2.slots _ hm _ (List.getElem?_eq_getElem (by omega))
      · rw [if_neg hm]
        exact ⟨Tm.sVar, ByteArray.empty, i, Tm.posOf t.vars x.n, 0, 0, rfl, hil, he, hown, .inl ⟨rfl, hpl⟩⟩
    · rw [if_neg h0]
      by_cases h1 : x.kind = 1
      · rw [if_pos h1]
        exact ⟨Tm.sInt, ByteArray.empty, i, 0, 0, x.n, rfl, hil, he, hown, .inr (.inr (.inl ⟨rfl, g1⟩))⟩
      · rw [if_neg h1]
        by_cases ha : x.args.length = 0
        · rw [if_pos ha]
          exact ⟨Tm.sAtom, x.name, i, 0, 0, 0, rfl, hil, g2, hown, .inr (.inr (.inr (.inl rfl)))⟩
        · rw [if_neg ha]
          refine ⟨Tm.sComp, x.name, i, x.args.length, Tm.cb t.args i, 0, rfl, hil, g2, hown, .inr (.inr (.inr (.inr ⟨rfl, by omega, ?_, c3, by omega⟩)))⟩; exact good_slim hg x hmem
  · obtain ⟨x, hx, rfl⟩ := steps_at hs
    obtain ⟨c1, c2, c3, c4⟩ := Tm.cb_next hx; obtain ⟨I1, I2, ⟨a1, ha1⟩, I4⟩ := I
    have hil : i < Tm.sizes t.args := by have := (List.getElem?_eq_some_iff.1 hx).1; rwa [Tm.regs_length] at this
    have hn := Tm.step_head hg hx I2; rw [hst] at hn; obtain ⟨a2, ha2⟩ := hn.pre; refine ⟨by omega, hn.inv, ⟨a2 ++ a1, by rw [ha2, ha1, List.append_assoc]⟩, ?_⟩
    have hm : st'.m ≤ st.m + x.args.length := by
      rcases Tm.stepM_m hst with e | ⟨n1, n2, n3, n4, e⟩
      · omega
      · unfold Tm.stepX at n1 n2 n3 n4 e
        by_cases h0 : x.kind = 0
        · rw [if_pos h0] at n1 n2
          by_cases hm : x.n ∈ Tm.met t.args i
          · rw [if_pos hm] at n2; exact absurd rfl n2
          · rw [if_neg hm] at n1; exact absurd rfl n1
        · rw [if_neg h0] at n3 n4 e
          by_cases h1 : x.kind = 1
          · rw [if_pos h1] at n3; exact absurd rfl n3
          · rw [if_neg h1] at n4 e
            by_cases ha : x.args.length = 0
            · rw [if_pos ha] at n4; exact absurd rfl n4
            · rw [if_neg ha] at e
              simp only [Int.toNat_natCast] at e; omega
    omega
end Go.Proofs.Ytoihjobdfjajfaa
namespace Go.Proofs.Ytoihjobdfjajfaa
open Lib (hid)
open Go.RowKit Go.Maps
open Tm (Stp sVar sVal sInt sAtom sComp)
theorem three_boxes (w : World) (a b c : Obj) : Turned (fun _ => False) w (((w.alloc a).alloc b).alloc c) ∧ (((w.alloc a).alloc b).alloc c).heap[w.heap.size]? = some a ∧ (((w.alloc a).alloc b).alloc c).heap[w.heap.size + 1]? = some b ∧ (((w.alloc a).alloc b).alloc c).heap[w.heap.size + 1 + 1]? = some c := by
  have h := twoBox w a b; have T := (Turned.refl (fun _ => False) ((w.alloc a).alloc b)).alloc c; have hn := heap_alloc_new ((w.alloc a).alloc b) c; rw [h.2.1] at hn; exact ⟨h.1.trans T, (T.block _ (by have := h.2.1; omega) (fun f => f)).trans h.2.2.1, (T.block _ (by have := h.2.1; omega) (fun f => f)).trans h.2.2.2, hn⟩
theorem cells2 {w : World} {bb : Nat} {a b : Value} {T : TypeId} (h : w.heap[bb]? = some (.cells #[a, b] T (0, 0))) : w.cell? ⟨bb, 0, none⟩ = some a ∧ w.cell? ⟨bb, 1, none⟩ = some b :=
  ⟨by rw [cell_of_row w bb 0 _ T (0, 0) h]; rfl, by rw [cell_of_row w bb 1 _ T (0, 0) h]; rfl⟩
set_option maxRecDepth 100000 in
set_option maxHeartbeats 12800000 in
theorem one_compT {kb mb : Nat} {k ar sl rg i : Int} {lv : Value} {s : Stp} {w : World} (hb : w.heap[kb]? = some (.cells #[.int .i64 k, .map (some mb)] 178 (0, 0))) (hk : 0 ≤ k ∧ k ≤ 30000) (hb8 : 1 ≤ s.b ∧ s.b ≤ 8) (hs : stOk s) (hop : s.op = sComp) (h1 : s.a = i) (h3 : s.c = k) (h4 : s.n = 0) :
    Calls Try.prog 149 #[.pointer (some ⟨kb, 0, none⟩), .agg #[.int .i64 ar, .int .i64 sl, .int .i64 rg, lv], .int .i64 i, .agg #[.string s.op, .int .i64 s.a, .int .i64 s.b, .int .i64 s.c, .int .i64 s.n, .string s.name]] w fun e w' => e = .returned (.bool (goodNameB s.name)) ∧ w'.heap[kb]? = some (.cells #[.int .i64 (k + s.b), .map (some mb)] 178 (0, 0)) ∧ Turned (fun q => q = kb) w w' := by
  have hnm := hs.2.2.2.2.2; have o0 := op_Comp_Var; have o1 := op_Comp_Val; have o2 := op_Comp_Int; have o3 := op_Comp_Atom; have o4 := op_Comp_Comp; have d1 : decide (s.b < 1) = false := decide_eq_false (by omega); have d2 : decide (8 < s.b) = false := decide_eq_false (by omega); have hkl := (Array.getElem?_eq_some_iff.1 hb).1; obtain ⟨T0, z0, z1, z2⟩ := three_boxes w (.cells #[.int .i64 ar, .int .i64 sl, .int .i64 rg, lv] 104) (.cells #[.string sComp, .int .i64 i, .int .i64 s.b, .int .i64 k, .int .i64 0, .string s.name] 139) (.cells #[.string sComp, .int .i64 i, .int .i64 0, .int .i64 0, .int .i64 0, .string ⟨#[]⟩] 139); have H9 := hid z2; have H7 := hid (fun W (T : Turned (fun q => q = w.heap.size + 1 + 1) (((w.alloc (.cells #[.int .i64 ar, .int .i64 sl, .int .i64 rg, lv] 104)).alloc (.cells #[.string sComp, .int .i64 i, .int .i64 s.b, .int .i64 k, .int .i64 0, .string s.name] 139)).alloc (.cells #[.string sComp, .int .i64 i, .int .i64 0, .int .i64 0, .int .i64 0, .string ⟨#[]⟩] 139)) W) => (T.block _ (Array.getElem?_eq_some_iff.1 z1).1 (by omega)).trans z1); have HK := hid (fun W (T : Turned (fun q => q = w.heap.size + 1 + 1) (((w.alloc (.cells #[.int .i64 ar, .int .i64 sl, .int .i64 rg, lv] 104)).alloc (.cells #[.string sComp, .int .i64 i, .int .i64 s.b, .int .i64 k, .int .i64 0, .string s.name] 139)).alloc (.cells #[.string sComp, .int .i64 i, .int .i64 0, .int .i64 0, .int .i64 0, .string ⟨#[]⟩] 139)) W) => (T.block kb (Nat.lt_of_lt_of_le hkl T0.size) (by omega)).trans ((T0.block kb hkl (fun f => f)).trans hb)); have HT0 := hid T0; have HKL := hid hkl; have HKB := hid hk; have HB8 := hid hb8; rw [hop, h1, h3, h4]; clear T0 z0 z1 z2 hb hkl hk hs hb8; go_enter Try.func149, Try.ntmps149
  go_wp2_with fail
  refine wp_region_k [63, 64, 65, 66, 67, 68, 69, 70, 71, 72, 73] [9, 11, 13] [] (fun dd vv => (match dd with | 63 => vv = .pointer (some ⟨w.heap.size + 1, 5, none⟩) | 64 => vv = .string s.name | 65 => vv = .pointer (some ⟨w.heap.size + 1, 2, none⟩) | 66 => vv = .int .i64 s.b | 67 => vv = .pointer (some ⟨kb, 0, none⟩) | 68 => vv = .pointer (some ⟨kb, 0, none⟩) | 69 => vv = .pointer (some ⟨kb, 0, none⟩) | 70 => vv = .int .i64 k | 71 => vv = .pointer (some ⟨w.heap.size + 1 + 1, 5, none⟩) | 72 => vv = .pointer (some ⟨w.heap.size + 1 + 1, 2, none⟩) | 73 => vv = .pointer (some ⟨w.heap.size + 1 + 1, 3, none⟩) | _ => True : Prop)) (BoxR (w.heap.size + 1 + 1) 139 [.string sComp, .int .i64 i, .int .i64 0, .int .i64 0, .int .i64 0, .string ⟨#[]⟩] [.string sComp, .int .i64 i, .int .i64 s.b, .int .i64 k, .int .i64 0, .string s.name] [(9, 5), (11, 2), (13, 3)] (((w.alloc (.cells #[.int .i64 ar, .int .i64 sl, .int .i64 rg, lv] 104)).alloc (.cells #[.string sComp, .int .i64 i, .int .i64 s.b, .int .i64 k, .int .i64 0, .string s.name] 139)).alloc (.cells #[.string sComp, .int .i64 i, .int .i64 0, .int .i64 0, .int .i64 0, .string ⟨#[]⟩] 139))) (by kernel_rfl) rfl (by kernel_rfl) (by kernel_rfl) (fun w h => BoxR.start H9.out h) (fun hs w w' h ht => h.turned0 ht) ?hs ?hQ
  case hs =>
    refine ⟨?s0, ?s1, ?s2, ?s3, ?s4, ?s5, ?s6, ?s7, ?s8, ?s9, ?s10, ?s11, ?s12, ?s13, trivial⟩
    case s0 =>
      refine fun hs hl => stepG_free [] [7] (by kernel_rfl) rfl ?_
      intro ac W hT hI hO; have h7 : ac.tmps.getD 7 undef = .pointer (some ⟨w.heap.size + 1, 0, none⟩) := hO 7 (by simp); show Brings _ (fun v _ => _ ∧ v = _) _; simp only [execOp, Act.eval, h7]; go_simp
      try exact tq
    case s1 =>
      refine fun hs hl => stepG_free [63] [] (by kernel_rfl) rfl ?_
      intro ac W hT hI hO; have h63 : ac.tmps.getD 63 undef = _ := hI 63 (by simp); show Brings _ (fun v _ => _ ∧ v = _) _; obtain ⟨e0, e1, e2, e3, e4, e5⟩ := cells6 (H7.out W hT.t); simp only [execOp, Act.eval, h63]; go_simp
      try exact tq
    case s2 =>
      refine fun hs hl => stepG_free [] [7] (by kernel_rfl) rfl ?_
      intro ac W hT hI hO; have h7 : ac.tmps.getD 7 undef = .pointer (some ⟨w.heap.size + 1, 0, none⟩) := hO 7 (by simp); show Brings _ (fun v _ => _ ∧ v = _) _; simp only [execOp, Act.eval, h7]; go_simp
      try exact tq
    case s3 =>
      refine fun hs hl => stepG_free [65] [] (by kernel_rfl) rfl ?_
      intro ac W hT hI hO; have h65 : ac.tmps.getD 65 undef = _ := hI 65 (by simp); show Brings _ (fun v _ => _ ∧ v = _) _; obtain ⟨e0, e1, e2, e3, e4, e5⟩ := cells6 (H7.out W hT.t); simp only [execOp, Act.eval, h65]; go_simp
      try exact tq
    case s4 =>
      refine fun hs hl => stepG_free [] [0] (by kernel_rfl) rfl ?_
      intro ac W hT hI hO; have h0 : ac.tmps.getD 0 undef = .pointer (some ⟨kb, 0, none⟩) := hO 0 (by simp); show Brings _ (fun v _ => _ ∧ v = _) _; simp only [execOp, Act.eval, h0]; go_simp
      try exact tq
    case s5 =>
      refine fun hs hl => stepG_free [67] [] (by kernel_rfl) rfl ?_
      intro ac W hT hI hO; have h67 : ac.tmps.getD 67 undef = _ := hI 67 (by simp); show Brings _ (fun v _ => _ ∧ v = _) _; simp only [execOp, Act.eval, h67]; go_simp
      try exact tq
    case s6 =>
      refine fun hs hl => stepG_free [68] [] (by kernel_rfl) rfl ?_
      intro ac W hT hI hO; have h68 : ac.tmps.getD 68 undef = _ := hI 68 (by simp); show Brings _ (fun v _ => _ ∧ v = _) _; simp only [execOp, Act.eval, h68]; go_simp
      try exact tq
    case s7 =>
      refine fun hs hl => stepG_free [69] [] (by kernel_rfl) rfl ?_
      intro ac W hT hI hO; have h69 : ac.tmps.getD 69 undef = _ := hI 69 (by simp); show Brings _ (fun v _ => _ ∧ v = _) _; obtain ⟨k0, k1⟩ := cells2 (HK.out W hT.t); simp only [execOp, Act.eval, h69]; go_simp
      try exact tq
    case s8 =>
      refine fun hs hl => stepG_free [] [9] (by kernel_rfl) rfl ?_
      intro ac W hT hI hO; have h9 : ac.tmps.getD 9 undef = .pointer (some ⟨w.heap.size + 1 + 1, 0, none⟩) := hO 9 (by simp); show Brings _ (fun v _ => _ ∧ v = _) _; simp only [execOp, Act.eval, h9]; go_simp
      try exact tq
    case s9 =>
      refine fun hs hno hl => stepG_free [71, 64] [] (by kernel_rfl) rfl ?_
      intro ac W hT hI hO; have h71 : ac.tmps.getD 71 undef = _ := hI 71 (by simp); have h64 : ac.tmps.getD 64 undef = _ := hI 64 (by simp); show Brings Try.prog (fun vv w' => BoxR (w.heap.size + 1 + 1) 139 [.string sComp, .int .i64 i, .int .i64 0, .int .i64 0, .int .i64 0, .string ⟨#[]⟩] [.string sComp, .int .i64 i, .int .i64 s.b, .int .i64 k, .int .i64 0, .string s.name] [(9, 5), (11, 2), (13, 3)] (((w.alloc (.cells #[.int .i64 ar, .int .i64 sl, .int .i64 rg, lv] 104)).alloc (.cells #[.string sComp, .int .i64 i, .int .i64 s.b, .int .i64 k, .int .i64 0, .string s.name] 139)).alloc (.cells #[.string sComp, .int .i64 i, .int .i64 0, .int .i64 0, .int .i64 0, .string ⟨#[]⟩] 139)) (hs ++ [(9, vv)]) w') _; obtain ⟨⟨z, hz⟩, hf⟩ := hT.at (c := 5) (by simp); simp only [execOp, Act.eval, h71, h64]; go_simp; exact hT.store (by kernel_rfl) (by simp) (by simp) rfl
    case s10 =>
      refine fun hs hl => stepG_free [] [9] (by kernel_rfl) rfl ?_
      intro ac W hT hI hO; have h9 : ac.tmps.getD 9 undef = .pointer (some ⟨w.heap.size + 1 + 1, 0, none⟩) := hO 9 (by simp); show Brings _ (fun v _ => _ ∧ v = _) _; simp only [execOp, Act.eval, h9]; go_simp
      try exact tq
    case s11 =>
      refine fun hs hno hl => stepG_free [72, 66] [] (by kernel_rfl) rfl ?_
      intro ac W hT hI hO; have h72 : ac.tmps.getD 72 undef = _ := hI 72 (by simp); have h66 : ac.tmps.getD 66 undef = _ := hI 66 (by simp); show Brings Try.prog (fun vv w' => BoxR (w.heap.size + 1 + 1) 139 [.string sComp, .int .i64 i, .int .i64 0, .int .i64 0, .int .i64 0, .string ⟨#[]⟩] [.string sComp, .int .i64 i, .int .i64 s.b, .int .i64 k, .int .i64 0, .string s.name] [(9, 5), (11, 2), (13, 3)] (((w.alloc (.cells #[.int .i64 ar, .int .i64 sl, .int .i64 rg, lv] 104)).alloc (.cells #[.string sComp, .int .i64 i, .int .i64 s.b, .int .i64 k, .int .i64 0, .string s.name] 139)).alloc (.cells #[.string sComp, .int .i64 i, .int .i64 0, .int .i64 0, .int .i64 0, .string ⟨#[]⟩] 139)) (hs ++ [(11, vv)]) w') _; obtain ⟨⟨z, hz⟩, hf⟩ := hT.at (c := 2) (by simp); simp only [execOp, Act.eval, h72, h66]; go_simp; exact hT.store (by kernel_rfl) (by simp) (by simp) rfl
    case s12 =>
      refine fun hs hl => stepG_free [] [9] (by kernel_rfl) rfl ?_
      intro ac W hT hI hO; have h9 : ac.tmps.getD 9 undef = .pointer (some ⟨w.heap.size + 1 + 1, 0, none⟩) := hO 9 (by simp); show Brings _ (fun v _ => _ ∧ v = _) _; simp only [execOp, Act.eval, h9]; go_simp
      try exact tq
    case s13 =>
      refine fun hs hno hl => stepG_free [73, 70] [] (by kernel_rfl) rfl ?_
      intro ac W hT hI hO; have h73 : ac.tmps.getD 73 undef = _ := hI 73 (by simp); have h70 : ac.tmps.getD 70 undef = _ := hI 70 (by simp); show Brings Try.prog (fun vv w' => BoxR (w.heap.size + 1 + 1) 139 [.string sComp, .int .i64 i, .int .i64 0, .int .i64 0, .int .i64 0, .string ⟨#[]⟩] [.string sComp, .int .i64 i, .int .i64 s.b, .int .i64 k, .int .i64 0, .string s.name] [(9, 5), (11, 2), (13, 3)] (((w.alloc (.cells #[.int .i64 ar, .int .i64 sl, .int .i64 rg, lv] 104)).alloc (.cells #[.string sComp, .int .i64 i, .int .i64 s.b, .int .i64 k, .int .i64 0, .string s.name] 139)).alloc (.cells #[.string sComp, .int .i64 i, .int .i64 0, .int .i64 0, .int .i64 0, .string ⟨#[]⟩] 139)) (hs ++ [(13, vv)]) w') _; obtain ⟨⟨z, hz⟩, hf⟩ := hT.at (c := 3) (by simp); simp only [execOp, Act.eval, h73, h70]; go_simp; exact hT.store (by kernel_rfl) (by simp) (by simp) rfl
  case hQ =>
    intro hs3 vs3 w3 hall huniq hR hV; simp only [List.foldl_cons, List.foldl_nil, List.setIfInBounds_toArray, List.set_cons_zero, List.set_cons_succ]; have hnew := hR.done rfl (by intro a ha; simp only [List.mem_cons, List.not_mem_nil, or_false] at ha; rcases ha with rfl | rfl | rfl <;> exact hall _ (by simp)) (by intro c hc hn; simp only [List.length_cons, List.length_nil] at hc; simp only [List.map_cons, List.map_nil, List.mem_cons, List.not_mem_nil, or_false, not_or] at hn; have hcs : c = 0 ∨ c = 1 ∨ c = 2 ∨ c = 3 ∨ c = 4 ∨ c = 5 := (by omega); rcases hcs with rfl | rfl | rfl | rfl | rfl | rfl <;> first | rfl | omega); have H93 := hid hnew; have H73 := hid (H7.out w3 hR.t); have HK3 := hid (HK.out w3 hR.t); have HT3 := hid hR.t; obtain ⟨e0, e1, e2, e3, e4, e5⟩ := cells6 H73.out; clear hR hV hall huniq hnew
    go_wp2_with fail
    clear e0 e1 e2 e3 e4 e5; have HS7 := hid (fun W (T : Turned (fun q => q = kb) w3 W) => (T.block _ (Array.getElem?_eq_some_iff.1 H73.out).1 (by have := HKL.out; omega)).trans H73.out); refine wp_region_k [82, 83, 84, 85, 86, 87, 88, 89, 90] [9] [] (fun dd vv => (match dd with | 82 => vv = .pointer (some ⟨kb, 0, none⟩) | 83 => vv = .pointer (some ⟨kb, 0, none⟩) | 84 => vv = .pointer (some ⟨kb, 0, none⟩) | 85 => vv = .int .i64 k | 86 => vv = .pointer (some ⟨w.heap.size + 1, 2, none⟩) | 87 => vv = .int .i64 s.b | 88 => vv = .int .i64 (k + s.b) | 89 => vv = .pointer (some ⟨kb, 0, none⟩) | 90 => vv = .pointer (some ⟨kb, 0, none⟩) | _ => True : Prop)) (BoxR (kb) 178 [.int .i64 k, .map (some mb)] [.int .i64 (k + s.b), .map (some mb)] [(9, 0)] w3) (by kernel_rfl) rfl (by kernel_rfl) (by kernel_rfl) (fun w h => BoxR.start HK3.out h) (fun hs w w' h ht => h.turned0 ht) ?hs ?hQ
    case hs =>
      refine ⟨?s0, ?s1, ?s2, ?s3, ?s4, ?s5, ?s6, ?s7, ?s8, ?s9, trivial⟩
      case s0 =>
        refine fun hs hl => stepG_free [] [0] (by kernel_rfl) rfl ?_
        intro ac W hT hI hO; have h0 : ac.tmps.getD 0 undef = .pointer (some ⟨kb, 0, none⟩) := hO 0 (by simp); show Brings _ (fun v _ => _ ∧ v = _) _; simp only [execOp, Act.eval, h0]; go_simp
        try exact tq
      case s1 =>
        refine fun hs hl => stepG_free [82] [] (by kernel_rfl) rfl ?_
        intro ac W hT hI hO; have h82 : ac.tmps.getD 82 undef = _ := hI 82 (by simp); show Brings _ (fun v _ => _ ∧ v = _) _; simp only [execOp, Act.eval, h82]; go_simp
        try exact tq
      case s2 =>
        refine fun hs hl => stepG_free [83] [] (by kernel_rfl) rfl ?_
        intro ac W hT hI hO; have h83 : ac.tmps.getD 83 undef = _ := hI 83 (by simp); show Brings _ (fun v _ => _ ∧ v = _) _; simp only [execOp, Act.eval, h83]; go_simp
        try exact tq
      case s3 =>
        refine fun hs hl => stepG_free [84] [] (by kernel_rfl) rfl ?_
        intro ac W hT hI hO; have h84 : ac.tmps.getD 84 undef = _ := hI 84 (by simp); show Brings _ (fun v _ => _ ∧ v = _) _; have k0 := hT.old (c := 0) rfl (fun j hj v => by simp only [List.mem_cons, List.not_mem_nil, or_false, Prod.mk.injEq] at hj; obtain ⟨rfl, _⟩ := hj; exact hl 9 30 v (by kernel_rfl)); simp only [execOp, Act.eval, h84]; go_simp
        try exact tq
      case s4 =>
        refine fun hs hl => stepG_free [] [7] (by kernel_rfl) rfl ?_
        intro ac W hT hI hO; have h7 : ac.tmps.getD 7 undef = .pointer (some ⟨w.heap.size + 1, 0, none⟩) := hO 7 (by simp); show Brings _ (fun v _ => _ ∧ v = _) _; simp only [execOp, Act.eval, h7]; go_simp
        try exact tq
      case s5 =>
        refine fun hs hl => stepG_free [86] [] (by kernel_rfl) rfl ?_
        intro ac W hT hI hO; have h86 : ac.tmps.getD 86 undef = _ := hI 86 (by simp); show Brings _ (fun v _ => _ ∧ v = _) _; obtain ⟨e0, e1, e2, e3, e4, e5⟩ := cells6 (HS7.out W hT.t); simp only [execOp, Act.eval, h86]; go_simp
        try exact tq
      case s6 =>
        refine fun hs hl => stepG_free [85, 87] [] (by kernel_rfl) rfl ?_
        intro ac W hT hI hO; have h85 : ac.tmps.getD 85 undef = _ := hI 85 (by simp); have h87 : ac.tmps.getD 87 undef = _ := hI 87 (by simp); show Brings _ (fun v _ => _ ∧ v = _) _; have hw : IntKind.i64.wrap (k + s.b) = k + s.b := wrapI (by have := HKB.out; have := HB8.out; omega) (by have := HKB.out; have := HB8.out; omega); simp only [execOp, Act.eval, h85, h87]; go_simp
        try exact tq
      case s7 =>
        refine fun hs hl => stepG_free [82] [] (by kernel_rfl) rfl ?_
        intro ac W hT hI hO; have h82 : ac.tmps.getD 82 undef = _ := hI 82 (by simp); show Brings _ (fun v _ => _ ∧ v = _) _; simp only [execOp, Act.eval, h82]; go_simp
        try exact tq
      case s8 =>
        refine fun hs hl => stepG_free [89] [] (by kernel_rfl) rfl ?_
        intro ac W hT hI hO; have h89 : ac.tmps.getD 89 undef = _ := hI 89 (by simp); show Brings _ (fun v _ => _ ∧ v = _) _; simp only [execOp, Act.eval, h89]; go_simp
        try exact tq
      case s9 =>
        refine fun hs hno hl => stepG_free [90, 88] [] (by kernel_rfl) rfl ?_
        intro ac W hT hI hO; have h90 : ac.tmps.getD 90 undef = _ := hI 90 (by simp); have h88 : ac.tmps.getD 88 undef = _ := hI 88 (by simp); show Brings Try.prog (fun vv w' => BoxR (kb) 178 [.int .i64 k, .map (some mb)] [.int .i64 (k + s.b), .map (some mb)] [(9, 0)] w3 (hs ++ [(9, vv)]) w') _; obtain ⟨⟨z, hz⟩, hf⟩ := hT.at (c := 0) (by simp); simp only [execOp, Act.eval, h90, h88]; go_simp; exact hT.store (by kernel_rfl) (by simp) (by simp) rfl
    case hQ =>
      intro hs4 vs4 w4 hall huniq hR hV; simp only [List.foldl_cons, List.foldl_nil, List.setIfInBounds_toArray, List.set_cons_zero, List.set_cons_succ]; have hnew := hR.done rfl (by intro a ha; simp only [List.mem_cons, List.not_mem_nil, or_false] at ha; rcases ha with rfl <;> exact hall _ (by simp)) (by intro c hc hn; simp only [List.length_cons, List.length_nil] at hc; simp only [List.map_cons, List.map_nil, List.mem_cons, List.not_mem_nil, or_false, not_or] at hn; have hcs : c = 0 ∨ c = 1 ∨ c = 2 ∨ c = 3 ∨ c = 4 ∨ c = 5 := (by omega); rcases hcs with rfl | rfl | rfl | rfl | rfl | rfl <;> first | rfl | omega); have H74 := hid ((hR.t.block _ (Array.getElem?_eq_some_iff.1 H73.out).1 (by have := HKL.out; omega)).trans H73.out); have H94 := hid ((hR.t.block _ (Array.getElem?_eq_some_iff.1 H93.out).1 (by have := HKL.out; omega)).trans H93.out); have HK4 := hid hnew; have HT4 := hid hR.t; clear hR hV hall huniq hnew; obtain ⟨a0, a1, a2, a3, a4, a5⟩ := cells6 H74.out; obtain ⟨b0, b1, b2, b3, b4, b5⟩ := cells6 H94.out; obtain ⟨B, hB⟩ : ∃ B, B = goodNameB s.name := ⟨_, rfl⟩; have HB := hid hB; clear hB
      go_wp2_with (first
        | (go_at_call 63; (with_reducible refine (atomOnly s.name hnm _).mono ?_); rintro e W1 ⟨rfl, T1⟩)
        | (go_at_call 38; (with_reducible refine (goodAtom s.name hnm _).mono ?_); rintro e W2 ⟨rfl, T2⟩; rw [← HB.out]))
      go_ret; refine ⟨by rw [← HB.out]; rfl, ((T1.trans T2).block kb (Array.getElem?_eq_some_iff.1 HK4.out).1 (fun f => f)).trans HK4.out, ?_⟩; have hz := HKL.out; have T7 := HT0.out.step HT3.out (fun q hq e => by omega); exact ((T7.mono (fun _ _ f => f.elim)).trans HT4.out).trans ((T1.trans T2).mono (fun _ _ f => f.elim))
end Go.Proofs.Ytoihjobdfjajfaa
namespace Go.Proofs.Ytoihjobdfjajfaa
open Go.RowKit Go.Maps
structure MapR (kt : TypeId) (mb op n n' : Nat) (f f' : Int → Option Value) (w0 : World) (hs : Hist) (W : World) : Prop where
  t : Turned (fun k => k = mb) w0 W
  old : (∀ v, (op, v) ∉ hs) → IMap Try.prog kt W mb n f
  new : ∀ v, (op, v) ∈ hs → IMap Try.prog kt W mb n' f'
section
variable {kt : TypeId} {mb op n n' : Nat} {f f' : Int → Option Value} {w0 W W' : World} {hs : Hist}
theorem MapR.start (h : IMap Try.prog kt w0 mb n f) (T : Turned (fun _ => False) w0 W) : MapR kt mb op n n' f f' w0 [] W :=
  ⟨T.mono (fun _ _ f => f.elim), fun _ => h.turned T (fun f => f), fun v hm => (List.not_mem_nil hm).elim⟩
theorem MapR.turned0 (h : MapR kt mb op n n' f f' w0 hs W) (T : Turned (fun _ => False) W W') : MapR kt mb op n n' f f' w0 hs W' :=
  ⟨h.t.trans (T.mono (fun _ _ f => f.elim)), fun hn => (h.old hn).turned T (fun f => f), fun v hv => (h.new v hv).turned T (fun f => f)⟩
theorem MapR.put (h : MapR kt mb op n n' f f' w0 hs W) {x : Value} (T : Turned (· = mb) W W') (hm : IMap Try.prog kt W' mb n' f') : MapR kt mb op n n' f f' w0 (hs ++ [(op, x)]) W' :=
  ⟨h.t.step T (fun i hi e => e), fun hn => absurd (List.mem_append_right _ (List.mem_singleton.2 rfl)) (hn x), fun v hv => hm⟩
end
end Go.Proofs.Ytoihjobdfjajfaa
namespace Go.Proofs.Ytoihjobdfjajfaa
open Lib (hid)
open Go.RowKit Go.Maps
open Tm (Stp sVar sVal sInt sAtom sComp)
theorem law3 : Keyed Try.prog 3 := int_keyed Try.underlying3
theorem key3 {n : Int} (h : I64 n) : Go.keyOf Try.prog 3 (.int .i64 n) = some (kI n) := keyOf_int_mk Try.underlying3 h.wf
theorem hadLook {w : World} {mb n : Nat} {had : List Int} {b : Int} (h : IMap Try.prog 3 w mb n (hadF had)) (h64 : I64 b) : (Instr.lookup 145 (.map (some mb)) (.int .i64 b) false).run Try.prog w = .ok (.bool (decide (b ∈ had))) w := by
  rw [h.look law3 Try.underlying145 (zero4 _) (key3 h64), hadF_get]
def hadN (had : List Int) (b : Int) : List Int := if b ∈ had then had else had ++ [b]
theorem hadN_len (had : List Int) (b : Int) : (hadN had b).length ≤ had.length + 1 := by
  unfold hadN; split
  · omega
  · rw [List.length_append]; exact Nat.le_refl _
theorem had_next {had : List Int} {b : Int} : upd (hadF had) b (.bool true) = hadF (hadN had b) ∧ (if (hadF had b).isSome then had.length else had.length + 1) = (hadN had b).length := by
  unfold hadN
  by_cases h : b ∈ had
  · rw [if_pos h, hadF_same h]
    refine ⟨rfl, if_pos ?_⟩; unfold hadF; rw [if_pos h]; rfl
  · rw [if_neg h, hadF_put]
    refine ⟨rfl, ?_⟩; rw [if_neg (by unfold hadF; rw [if_neg h]; simp), List.length_append]; rfl
set_option maxRecDepth 100000 in
set_option maxHeartbeats 12800000 in
theorem one_var_okT {kb mb : Nat} {k ar sl rg i : Int} {lv : Value} {had : List Int} {s : Stp} {w : World} (C : Chk kb mb k had w) (hf : had.length ≤ 3000) (hs : stOk s) (hop : s.op = sVar) (hb0 : 0 ≤ s.b) (hb : s.b < sl) (hm : s.b ∉ had) (h1 : s.a = i) (h2 : s.c = 0) (h3 : s.n = 0) (h4 : s.name = ByteArray.empty) :
    Calls Try.prog 149 #[.pointer (some ⟨kb, 0, none⟩), .agg #[.int .i64 ar, .int .i64 sl, .int .i64 rg, lv], .int .i64 i, .agg #[.string s.op, .int .i64 s.a, .int .i64 s.b, .int .i64 s.c, .int .i64 s.n, .string s.name]] w fun e w' => e = .returned (.bool (goodNameB ByteArray.empty)) ∧ Chk kb mb k (hadN had s.b) w' ∧ Turned (fun q => q = mb) w w' := by
  have hnm := hs.2.2.2.2.2; have hb64 := hs.2.2.1; have o0 := op_Var_Var; have o1 := op_Var_Val; have o2 := op_Var_Int; have o3 := op_Var_Atom; have o4 := op_Var_Comp; have en := empty_nil; have d1 : decide (s.b < 0) = false := decide_eq_false (by omega); have d2 : decide (sl ≤ s.b) = false := decide_eq_false (by omega); obtain ⟨T0, z0, z1, z2⟩ := three_boxes w (.cells #[.int .i64 ar, .int .i64 sl, .int .i64 rg, lv] 104) (.cells #[.string sVar, .int .i64 i, .int .i64 s.b, .int .i64 0, .int .i64 0, .string ByteArray.empty] 139) (.cells #[.string sVar, .int .i64 i, .int .i64 s.b, .int .i64 0, .int .i64 0, .string ⟨#[]⟩] 139); obtain ⟨W6, hW6⟩ : ∃ z, z = ((w.alloc (.cells #[.int .i64 ar, .int .i64 sl, .int .i64 rg, lv] 104)).alloc (.cells #[.string sVar, .int .i64 i, .int .i64 s.b, .int .i64 0, .int .i64 0, .string ByteArray.empty] 139)).alloc (.cells #[.string sVar, .int .i64 i, .int .i64 s.b, .int .i64 0, .int .i64 0, .string ⟨#[]⟩] 139) := ⟨_, rfl⟩; rw [← hW6] at T0 z0 z1 z2; have T6 := T0; have y0 := z0; have y1 := z1; have y2 := z2; have C6 := C.turned0 T6; have hlt := C.lt; have HC6 := hid C6; have H5 := hid (fun W (T : Turned (fun _ => False) W6 W) => (T.block _ (Array.getElem?_eq_some_iff.1 y0).1 (fun f => f)).trans y0); have H7 := hid (fun W (T : Turned (fun _ => False) W6 W) => (T.block _ (Array.getElem?_eq_some_iff.1 y1).1 (fun f => f)).trans y1); have H9 := hid (fun W (T : Turned (fun _ => False) W6 W) => (T.block _ (Array.getElem?_eq_some_iff.1 y2).1 (fun f => f)).trans y2); have HT6 := hid T6; have HLT := hid hlt; have HW6 := hid hW6; have HB64 := hid hb64; have HF := hid hf; have HLK := hid (fun W (T : Turned (fun _ => False) W6 W) => (decide_eq_false hm : decide (s.b ∈ had) = false) ▸ hadLook (C6.turned0 T).m hb64); rw [hop, h1, h2, h3, h4]; clear T0 z0 z1 z2 T6 y0 y1 y2 C6 hlt hW6 hb64 hf C hs; go_enter Try.func149, Try.ntmps149
  go_wp2_with fail
  rw [← HW6.out]; refine wp_region_ssa' (G := (fun dd vv W => (match dd with | 22 => vv = .pointer (some ⟨w.heap.size + 1, 2, none⟩) | 23 => vv = .int .i64 s.b | 24 => vv = .bool false | 25 => vv = .bool false | 26 => vv = .pointer (some ⟨w.heap.size + 1, 2, none⟩) | 27 => vv = .int .i64 s.b | 28 => vv = .pointer (some ⟨w.heap.size, 1, none⟩) | 29 => vv = .int .i64 sl | 30 => vv = .bool false | 31 => vv = .bool false | 32 => vv = .bool false | 33 => vv = .pointer (some ⟨kb, 0, none⟩) | 34 => vv = .pointer (some ⟨kb, 0, none⟩) | 35 => vv = .pointer (some ⟨kb, 1, none⟩) | 36 => vv = .map (some mb) | 37 => vv = .pointer (some ⟨w.heap.size + 1, 2, none⟩) | 38 => vv = .int .i64 s.b | 39 => vv = .bool false | 40 => vv = .pointer (some ⟨w.heap.size + 1, 0, none⟩) | 41 => vv = .string sVar | 42 => vv = .bool false | 43 => vv = .bool false | 44 => vv = .bool false  | _ => True : Prop))) [22, 23, 24, 25, 26, 27, 28, 29, 30, 31, 32, 33, 34, 35, 36, 37, 38, 39, 40, 41, 42, 43, 44] (by kernel_rfl) rfl (by kernel_rfl) ?hG ?hs ?hQ
  case hG => exact fun d v _ _ _ h => h
  case hs =>
    refine ⟨?s0, ?s1, ?s2, ?s3, ?s4, ?s5, ?s6, ?s7, ?s8, ?s9, ?s10, ?s11, ?s12, ?s13, ?s14, ?s15, ?s16, ?s17, ?s18, ?s19, ?s20, ?s21, ?s22, trivial⟩
    case s0 =>
      refine stepOk_free [] [7] (by kernel_rfl) rfl ?_; intro ac W hT hI hO; have h7 : ac.tmps.getD 7 undef = .pointer (some ⟨w.heap.size + 1, 0, none⟩) := hO 7 (by simp); show Brings _ (fun v _ => _ ∧ v = _) _; simp only [execOp, Act.eval, h7]; go_simp
      try exact tq
    case s1 =>
      refine stepOk_free [22] [] (by kernel_rfl) rfl ?_; intro ac W hT hI hO; have h22 : ac.tmps.getD 22 undef = _ := hI 22 (by simp); show Brings _ (fun v _ => _ ∧ v = _) _; obtain ⟨e0, e1, e2, e3, e4, e5⟩ := cells6 (H7.out W hT); simp only [execOp, Act.eval, h22]; go_simp
      try exact tq
    case s2 =>
      refine stepOk_free [23] [] (by kernel_rfl) rfl ?_; intro ac W hT hI hO; have h23 : ac.tmps.getD 23 undef = _ := hI 23 (by simp); show Brings _ (fun v _ => _ ∧ v = _) _; simp only [execOp, Act.eval, h23]; go_simp
      try exact tq
    case s3 =>
      refine stepOk_free [24] [] (by kernel_rfl) rfl ?_; intro ac W hT hI hO; have h24 : ac.tmps.getD 24 undef = _ := hI 24 (by simp); show Brings _ (fun v _ => _ ∧ v = _) _; simp only [execOp, Act.eval, h24]; go_simp
      try exact tq
    case s4 =>
      refine stepOk_guard [25] [7] (by kernel_rfl) 3 false 25 rfl rfl (by simp) true false (fun _ _ h => h) (fun hc => ?_) (fun hc => by cases hc); intro ac W hT hI hO; have h7 : ac.tmps.getD 7 undef = .pointer (some ⟨w.heap.size + 1, 0, none⟩) := hO 7 (by simp); show Brings _ (fun v _ => _ ∧ v = _) _; simp only [execOp, Act.eval, h7]; go_simp
      try exact tq
    case s5 =>
      refine stepOk_guard [26, 25] [] (by kernel_rfl) 3 false 25 rfl rfl (by simp) true false (fun _ _ h => h) (fun hc => ?_) (fun hc => by cases hc); intro ac W hT hI hO; have h26 : ac.tmps.getD 26 undef = _ := hI 26 (by simp); show Brings _ (fun v _ => _ ∧ v = _) _; obtain ⟨e0, e1, e2, e3, e4, e5⟩ := cells6 (H7.out W hT); simp only [execOp, Act.eval, h26]; go_simp
      try exact tq
    case s6 =>
      refine stepOk_guard [25] [5] (by kernel_rfl) 3 false 25 rfl rfl (by simp) true false (fun _ _ h => h) (fun hc => ?_) (fun hc => by cases hc); intro ac W hT hI hO; have h5 : ac.tmps.getD 5 undef = .pointer (some ⟨w.heap.size, 0, none⟩) := hO 5 (by simp); show Brings _ (fun v _ => _ ∧ v = _) _; simp only [execOp, Act.eval, h5]; go_simp
      try exact tq
    case s7 =>
      refine stepOk_guard [28, 25] [] (by kernel_rfl) 3 false 25 rfl rfl (by simp) true false (fun _ _ h => h) (fun hc => ?_) (fun hc => by cases hc); intro ac W hT hI hO; have h28 : ac.tmps.getD 28 undef = _ := hI 28 (by simp); show Brings _ (fun v _ => _ ∧ v = _) _; obtain ⟨k0, k1, k2, k3, _⟩ := cells4 (H5.out W hT); simp only [execOp, Act.eval, h28]; go_simp
      try exact tq
    case s8 =>
      refine stepOk_guard [27, 29, 25] [] (by kernel_rfl) 3 false 25 rfl rfl (by simp) true false (fun _ _ h => h) (fun hc => ?_) (fun hc => by cases hc); intro ac W hT hI hO; have h27 : ac.tmps.getD 27 undef = _ := hI 27 (by simp); have h29 : ac.tmps.getD 29 undef = _ := hI 29 (by simp); show Brings _ (fun v _ => _ ∧ v = _) _; simp only [execOp, Act.eval, h27, h29]; go_simp
      try exact tq
    case s9 =>
      refine stepOk_free [25, 30] [] (by kernel_rfl) rfl ?_; intro ac W hT hI hO; have h25 : ac.tmps.getD 25 undef = _ := hI 25 (by simp); have h30 : ac.tmps.getD 30 undef = _ := hI 30 (by simp); show Brings _ (fun v _ => _ ∧ v = _) _; simp only [execOp, Act.eval, h25, h30]; go_simp
      try exact tq
    case s10 =>
      refine stepOk_free [31] [] (by kernel_rfl) rfl ?_; intro ac W hT hI hO; have h31 : ac.tmps.getD 31 undef = _ := hI 31 (by simp); show Brings _ (fun v _ => _ ∧ v = _) _; simp only [execOp, Act.eval, h31]; go_simp
      try exact tq
    case s11 =>
      refine stepOk_guard [32] [0] (by kernel_rfl) 10 false 32 rfl rfl (by simp) true false (fun _ _ h => h) (fun hc => ?_) (fun hc => by cases hc); intro ac W hT hI hO; have h0 : ac.tmps.getD 0 undef = .pointer (some ⟨kb, 0, none⟩) := hO 0 (by simp); show Brings _ (fun v _ => _ ∧ v = _) _; simp only [execOp, Act.eval, h0]; go_simp
      try exact tq
    case s12 =>
      refine stepOk_guard [33, 32] [] (by kernel_rfl) 10 false 32 rfl rfl (by simp) true false (fun _ _ h => h) (fun hc => ?_) (fun hc => by cases hc); intro ac W hT hI hO; have h33 : ac.tmps.getD 33 undef = _ := hI 33 (by simp); show Brings _ (fun v _ => _ ∧ v = _) _; simp only [execOp, Act.eval, h33]; go_simp
      try exact tq
    case s13 =>
      refine stepOk_guard [34, 32] [] (by kernel_rfl) 10 false 32 rfl rfl (by simp) true false (fun _ _ h => h) (fun hc => ?_) (fun hc => by cases hc); intro ac W hT hI hO; have h34 : ac.tmps.getD 34 undef = _ := hI 34 (by simp); show Brings _ (fun v _ => _ ∧ v = _) _; simp only [execOp, Act.eval, h34]; go_simp
      try exact tq
    case s14 =>
      refine stepOk_guard [35, 32] [] (by kernel_rfl) 10 false 32 rfl rfl (by simp) true false (fun _ _ h => h) (fun hc => ?_) (fun hc => by cases hc); intro ac W hT hI hO; have h35 : ac.tmps.getD 35 undef = _ := hI 35 (by simp); show Brings _ (fun v _ => _ ∧ v = _) _; obtain ⟨k0, k1⟩ := cells2 (HC6.out.turned0 hT).b; simp only [execOp, Act.eval, h35]; go_simp
      try exact tq
    case s15 =>
      refine stepOk_guard [32] [7] (by kernel_rfl) 10 false 32 rfl rfl (by simp) true false (fun _ _ h => h) (fun hc => ?_) (fun hc => by cases hc); intro ac W hT hI hO; have h7 : ac.tmps.getD 7 undef = .pointer (some ⟨w.heap.size + 1, 0, none⟩) := hO 7 (by simp); show Brings _ (fun v _ => _ ∧ v = _) _; simp only [execOp, Act.eval, h7]; go_simp
      try exact tq
    case s16 =>
      refine stepOk_guard [37, 32] [] (by kernel_rfl) 10 false 32 rfl rfl (by simp) true false (fun _ _ h => h) (fun hc => ?_) (fun hc => by cases hc); intro ac W hT hI hO; have h37 : ac.tmps.getD 37 undef = _ := hI 37 (by simp); show Brings _ (fun v _ => _ ∧ v = _) _; obtain ⟨e0, e1, e2, e3, e4, e5⟩ := cells6 (H7.out W hT); simp only [execOp, Act.eval, h37]; go_simp
      try exact tq
    case s17 =>
      refine stepOk_guard [36, 38, 32] [] (by kernel_rfl) 10 false 32 rfl rfl (by simp) true false (fun _ _ h => h) (fun hc => ?_) (fun hc => by cases hc); intro ac W hT hI hO; have h36 : ac.tmps.getD 36 undef = _ := hI 36 (by simp); have h38 : ac.tmps.getD 38 undef = _ := hI 38 (by simp); show Brings _ (fun v _ => _ ∧ v = _) _; have hlk := HLK.out W hT; simp only [execOp, Act.eval, h36, h38]; go_simp
      try exact tq
    case s18 =>
      refine stepOk_guard [32] [7] (by kernel_rfl) 10 false 32 rfl rfl (by simp) true false (fun _ _ h => h) (fun hc => ?_) (fun hc => by cases hc); intro ac W hT hI hO; have h7 : ac.tmps.getD 7 undef = .pointer (some ⟨w.heap.size + 1, 0, none⟩) := hO 7 (by simp); show Brings _ (fun v _ => _ ∧ v = _) _; simp only [execOp, Act.eval, h7]; go_simp
      try exact tq
    case s19 =>
      refine stepOk_guard [40, 32] [] (by kernel_rfl) 10 false 32 rfl rfl (by simp) true false (fun _ _ h => h) (fun hc => ?_) (fun hc => by cases hc); intro ac W hT hI hO; have h40 : ac.tmps.getD 40 undef = _ := hI 40 (by simp); show Brings _ (fun v _ => _ ∧ v = _) _; obtain ⟨e0, e1, e2, e3, e4, e5⟩ := cells6 (H7.out W hT); simp only [execOp, Act.eval, h40]; go_simp
      try exact tq
    case s20 =>
      refine stepOk_guard [41, 32] [] (by kernel_rfl) 10 false 32 rfl rfl (by simp) true false (fun _ _ h => h) (fun hc => ?_) (fun hc => by cases hc); intro ac W hT hI hO; have h41 : ac.tmps.getD 41 undef = _ := hI 41 (by simp); show Brings _ (fun v _ => _ ∧ v = _) _; simp only [execOp, Act.eval, h41]; go_simp
      try exact tq
    case s21 =>
      refine stepOk_guard [39, 42, 32] [] (by kernel_rfl) 10 false 32 rfl rfl (by simp) true false (fun _ _ h => h) (fun hc => ?_) (fun hc => by cases hc); intro ac W hT hI hO; have h39 : ac.tmps.getD 39 undef = _ := hI 39 (by simp); have h42 : ac.tmps.getD 42 undef = _ := hI 42 (by simp); show Brings _ (fun v _ => _ ∧ v = _) _; simp only [execOp, Act.eval, h39, h42]; go_simp
      try exact tq
    case s22 =>
      refine stepOk_free [32, 43] [] (by kernel_rfl) rfl ?_; intro ac W hT hI hO; have h32 : ac.tmps.getD 32 undef = _ := hI 32 (by simp); have h43 : ac.tmps.getD 43 undef = _ := hI 43 (by simp); show Brings _ (fun v _ => _ ∧ v = _) _; simp only [execOp, Act.eval, h32, h43]; go_simp
      try exact tq
  case hQ =>
    intro vs7 W7 T7 hV; have q44 : vs7 44 = .bool false := hV 44 (by simp); simp only [List.foldl_cons, List.foldl_nil, List.setIfInBounds_toArray, List.set_cons_zero, List.set_cons_succ, q44]; have HT7 := hid T7; clear hV q44 T7
    go_wp2_with fail
    have HC7 := hid (HC6.out.turned0 HT7.out); have HM7 := hid (fun W (T : Turned (fun q => q = mb) W7 W) => (T.block _ (Array.getElem?_eq_some_iff.1 (H7.out W7 HT7.out)).1 (by have := HLT.out; omega)).trans (H7.out W7 HT7.out)); have HM9 := hid (fun W (T : Turned (fun q => q = mb) W7 W) => (T.block _ (Array.getElem?_eq_some_iff.1 (H9.out W7 HT7.out)).1 (by have := HLT.out; omega)).trans (H9.out W7 HT7.out)); have HMK := hid (fun W (T : Turned (fun q => q = mb) W7 W) => (T.block _ (Array.getElem?_eq_some_iff.1 HC7.out.b).1 (fun e => HC7.out.ne e)).trans HC7.out.b); refine wp_region_k [45, 46, 47, 48, 49, 50] [6] [] (fun dd vv => (match dd with | 45 => vv = .pointer (some ⟨kb, 0, none⟩) | 46 => vv = .pointer (some ⟨kb, 0, none⟩) | 47 => vv = .pointer (some ⟨kb, 1, none⟩) | 48 => vv = .map (some mb) | 49 => vv = .pointer (some ⟨w.heap.size + 1, 2, none⟩) | 50 => vv = .int .i64 s.b | _ => True : Prop)) (MapR 3 mb 6 (had.length) (if (hadF had s.b).isSome then had.length else had.length + 1) (hadF had) (upd (hadF had) s.b (.bool true)) W7) (by kernel_rfl) rfl (by kernel_rfl) (by kernel_rfl) (fun w h => MapR.start HC7.out.m h) (fun hs w w' h ht => h.turned0 ht) ?hs ?hQ
    case hs =>
      refine ⟨?s0, ?s1, ?s2, ?s3, ?s4, ?s5, ?s6, trivial⟩
      case s0 =>
        refine fun hs hl => stepG_free [] [0] (by kernel_rfl) rfl ?_
        intro ac W hT hI hO; have h0 : ac.tmps.getD 0 undef = .pointer (some ⟨kb, 0, none⟩) := hO 0 (by simp); show Brings _ (fun v _ => _ ∧ v = _) _; simp only [execOp, Act.eval, h0]; go_simp
        try exact tq
      case s1 =>
        refine fun hs hl => stepG_free [45] [] (by kernel_rfl) rfl ?_
        intro ac W hT hI hO; have h45 : ac.tmps.getD 45 undef = _ := hI 45 (by simp); show Brings _ (fun v _ => _ ∧ v = _) _; simp only [execOp, Act.eval, h45]; go_simp
        try exact tq
      case s2 =>
        refine fun hs hl => stepG_free [46] [] (by kernel_rfl) rfl ?_
        intro ac W hT hI hO; have h46 : ac.tmps.getD 46 undef = _ := hI 46 (by simp); show Brings _ (fun v _ => _ ∧ v = _) _; simp only [execOp, Act.eval, h46]; go_simp
        try exact tq
      case s3 =>
        refine fun hs hl => stepG_free [47] [] (by kernel_rfl) rfl ?_
        intro ac W hT hI hO; have h47 : ac.tmps.getD 47 undef = _ := hI 47 (by simp); show Brings _ (fun v _ => _ ∧ v = _) _; obtain ⟨k0, k1⟩ := cells2 (HMK.out W hT.t); simp only [execOp, Act.eval, h47]; go_simp
        try exact tq
      case s4 =>
        refine fun hs hl => stepG_free [] [7] (by kernel_rfl) rfl ?_
        intro ac W hT hI hO; have h7 : ac.tmps.getD 7 undef = .pointer (some ⟨w.heap.size + 1, 0, none⟩) := hO 7 (by simp); show Brings _ (fun v _ => _ ∧ v = _) _; simp only [execOp, Act.eval, h7]; go_simp
        try exact tq
      case s5 =>
        refine fun hs hl => stepG_free [49] [] (by kernel_rfl) rfl ?_
        intro ac W hT hI hO; have h49 : ac.tmps.getD 49 undef = _ := hI 49 (by simp); show Brings _ (fun v _ => _ ∧ v = _) _; obtain ⟨e0, e1, e2, e3, e4, e5⟩ := cells6 (HM7.out W hT.t); simp only [execOp, Act.eval, h49]; go_simp
        try exact tq
      case s6 =>
        refine fun hs hno hl => stepG_free [48, 50] [] (by kernel_rfl) rfl ?_
        intro ac W hT hI hO; have h48 : ac.tmps.getD 48 undef = _ := hI 48 (by simp); have h50 : ac.tmps.getD 50 undef = _ := hI 50 (by simp); obtain ⟨w', hr, hm, T⟩ := (hT.old hno).put law3 Try.underlying145 (by unfold maxLen; have := HF.out; omega) (v := .bool true) (key3 HB64.out) trivial; show Brings Try.prog (fun vv w' => MapR 3 mb 6 (had.length) (if (hadF had s.b).isSome then had.length else had.length + 1) (hadF had) (upd (hadF had) s.b (.bool true)) W7 (hs ++ [(6, vv)]) w') _; simp only [execOp, Act.eval, h48, h50, hr]; go_simp; exact hT.put T hm
    case hQ =>
      intro hs8 vs8 W8 hall huniq hR hV; simp only [List.foldl_cons, List.foldl_nil, List.setIfInBounds_toArray, List.set_cons_zero, List.set_cons_succ]; obtain ⟨v8, hv8⟩ := hall 6 (by simp); have hmap := hR.new v8 hv8; rw [had_next.1, had_next.2] at hmap; have HNEW : Hid (Chk kb mb k (hadN had s.b) W8) := ⟨HMK.out W8 hR.t, hmap, HC7.out.ne, by have := HF.out; have := hadN_len had s.b; omega⟩; have HT8 := hid hR.t; obtain ⟨a0, a1, a2, a3, a4, a5⟩ := cells6 (HM7.out W8 hR.t); obtain ⟨b0, b1, b2, b3, b4, b5⟩ := cells6 (HM9.out W8 hR.t); clear hR hV hall huniq hmap hv8; obtain ⟨B, hB⟩ : ∃ B, B = goodNameB ByteArray.empty := ⟨_, rfl⟩; have HB := hid hB
      have hnm0 : ByteArray.empty.size ≤ maxLen := by unfold maxLen; decide
      clear hB
      go_wp2_with (first
        | (go_at_call 63; (with_reducible refine (atomOnly ByteArray.empty hnm0 _).mono ?_); rintro e W9 ⟨rfl, T9⟩)
        | (go_at_call 38; (with_reducible refine (goodAtom ByteArray.empty hnm0 _).mono ?_); rintro e W10 ⟨rfl, T10⟩; rw [← HB.out]))
      go_ret; exact ⟨by rw [← HB.out]; rfl, HNEW.out.turned0 (T9.trans T10), (((HT6.out.trans HT7.out).mono (fun _ _ f => f.elim)).trans HT8.out).trans ((T9.trans T10).mono (fun _ _ f => f.elim))⟩
set_option maxRecDepth 100000 in
set_option maxHeartbeats 12800000 in
theorem one_val_okT {kb mb : Nat} {k ar sl rg i : Int} {lv : Value} {had : List Int} {s : Stp} {w : World} (C : Chk kb mb k had w) (hf : had.length ≤ 3000) (hs : stOk s) (hop : s.op = sVal) (hb0 : 0 ≤ s.b) (hb : s.b < sl) (hm : s.b ∈ had) (h1 : s.a = i) (h2 : s.c = 0) (h3 : s.n = 0) (h4 : s.name = ByteArray.empty) :
    Calls Try.prog 149 #[.pointer (some ⟨kb, 0, none⟩), .agg #[.int .i64 ar, .int .i64 sl, .int .i64 rg, lv], .int .i64 i, .agg #[.string s.op, .int .i64 s.a, .int .i64 s.b, .int .i64 s.c, .int .i64 s.n, .string s.name]] w fun e w' => e = .returned (.bool (goodNameB ByteArray.empty)) ∧ Chk kb mb k (hadN had s.b) w' ∧ Turned (fun q => q = mb) w w' := by
  have hnm := hs.2.2.2.2.2; have hb64 := hs.2.2.1; have o0 := op_Val_Var; have o1 := op_Val_Val; have o2 := op_Val_Int; have o3 := op_Val_Atom; have o4 := op_Val_Comp; have en := empty_nil; have d1 : decide (s.b < 0) = false := decide_eq_false (by omega); have d2 : decide (sl ≤ s.b) = false := decide_eq_false (by omega); obtain ⟨T0, z0, z1, z2⟩ := three_boxes w (.cells #[.int .i64 ar, .int .i64 sl, .int .i64 rg, lv] 104) (.cells #[.string sVal, .int .i64 i, .int .i64 s.b, .int .i64 0, .int .i64 0, .string ByteArray.empty] 139) (.cells #[.string sVal, .int .i64 i, .int .i64 s.b, .int .i64 0, .int .i64 0, .string ⟨#[]⟩] 139); obtain ⟨W6, hW6⟩ : ∃ z, z = ((w.alloc (.cells #[.int .i64 ar, .int .i64 sl, .int .i64 rg, lv] 104)).alloc (.cells #[.string sVal, .int .i64 i, .int .i64 s.b, .int .i64 0, .int .i64 0, .string ByteArray.empty] 139)).alloc (.cells #[.string sVal, .int .i64 i, .int .i64 s.b, .int .i64 0, .int .i64 0, .string ⟨#[]⟩] 139) := ⟨_, rfl⟩; rw [← hW6] at T0 z0 z1 z2; have T6 := T0; have y0 := z0; have y1 := z1; have y2 := z2; have C6 := C.turned0 T6; have hlt := C.lt; have HC6 := hid C6; have H5 := hid (fun W (T : Turned (fun _ => False) W6 W) => (T.block _ (Array.getElem?_eq_some_iff.1 y0).1 (fun f => f)).trans y0); have H7 := hid (fun W (T : Turned (fun _ => False) W6 W) => (T.block _ (Array.getElem?_eq_some_iff.1 y1).1 (fun f => f)).trans y1); have H9 := hid (fun W (T : Turned (fun _ => False) W6 W) => (T.block _ (Array.getElem?_eq_some_iff.1 y2).1 (fun f => f)).trans y2); have HT6 := hid T6; have HLT := hid hlt; have HW6 := hid hW6; have HB64 := hid hb64; have HF := hid hf; have HLK := hid (fun W (T : Turned (fun _ => False) W6 W) => (decide_eq_true hm : decide (s.b ∈ had) = true) ▸ hadLook (C6.turned0 T).m hb64); rw [hop, h1, h2, h3, h4]; clear T0 z0 z1 z2 T6 y0 y1 y2 C6 hlt hW6 hb64 hf C hs; go_enter Try.func149, Try.ntmps149
  go_wp2_with fail
  rw [← HW6.out]; refine wp_region_ssa' (G := (fun dd vv W => (match dd with | 22 => vv = .pointer (some ⟨w.heap.size + 1, 2, none⟩) | 23 => vv = .int .i64 s.b | 24 => vv = .bool false | 25 => vv = .bool false | 26 => vv = .pointer (some ⟨w.heap.size + 1, 2, none⟩) | 27 => vv = .int .i64 s.b | 28 => vv = .pointer (some ⟨w.heap.size, 1, none⟩) | 29 => vv = .int .i64 sl | 30 => vv = .bool false | 31 => vv = .bool false | 32 => vv = .bool false | 33 => vv = .pointer (some ⟨kb, 0, none⟩) | 34 => vv = .pointer (some ⟨kb, 0, none⟩) | 35 => vv = .pointer (some ⟨kb, 1, none⟩) | 36 => vv = .map (some mb) | 37 => vv = .pointer (some ⟨w.heap.size + 1, 2, none⟩) | 38 => vv = .int .i64 s.b | 39 => vv = .bool true | 40 => vv = .pointer (some ⟨w.heap.size + 1, 0, none⟩) | 41 => vv = .string sVal | 42 => vv = .bool true | 43 => vv = .bool false | 44 => vv = .bool false  | _ => True : Prop))) [22, 23, 24, 25, 26, 27, 28, 29, 30, 31, 32, 33, 34, 35, 36, 37, 38, 39, 40, 41, 42, 43, 44] (by kernel_rfl) rfl (by kernel_rfl) ?hG ?hs ?hQ
  case hG => exact fun d v _ _ _ h => h
  case hs =>
    refine ⟨?s0, ?s1, ?s2, ?s3, ?s4, ?s5, ?s6, ?s7, ?s8, ?s9, ?s10, ?s11, ?s12, ?s13, ?s14, ?s15, ?s16, ?s17, ?s18, ?s19, ?s20, ?s21, ?s22, trivial⟩
    case s0 =>
      refine stepOk_free [] [7] (by kernel_rfl) rfl ?_; intro ac W hT hI hO; have h7 : ac.tmps.getD 7 undef = .pointer (some ⟨w.heap.size + 1, 0, none⟩) := hO 7 (by simp); show Brings _ (fun v _ => _ ∧ v = _) _; simp only [execOp, Act.eval, h7]; go_simp
      try exact tq
    case s1 =>
      refine stepOk_free [22] [] (by kernel_rfl) rfl ?_; intro ac W hT hI hO; have h22 : ac.tmps.getD 22 undef = _ := hI 22 (by simp); show Brings _ (fun v _ => _ ∧ v = _) _; obtain ⟨e0, e1, e2, e3, e4, e5⟩ := cells6 (H7.out W hT); simp only [execOp, Act.eval, h22]; go_simp
      try exact tq
    case s2 =>
      refine stepOk_free [23] [] (by kernel_rfl) rfl ?_; intro ac W hT hI hO; have h23 : ac.tmps.getD 23 undef = _ := hI 23 (by simp); show Brings _ (fun v _ => _ ∧ v = _) _; simp only [execOp, Act.eval, h23]; go_simp
      try exact tq
    case s3 =>
      refine stepOk_free [24] [] (by kernel_rfl) rfl ?_; intro ac W hT hI hO; have h24 : ac.tmps.getD 24 undef = _ := hI 24 (by simp); show Brings _ (fun v _ => _ ∧ v = _) _; simp only [execOp, Act.eval, h24]; go_simp
      try exact tq
    case s4 =>
      refine stepOk_guard [25] [7] (by kernel_rfl) 3 false 25 rfl rfl (by simp) true false (fun _ _ h => h) (fun hc => ?_) (fun hc => by cases hc); intro ac W hT hI hO; have h7 : ac.tmps.getD 7 undef = .pointer (some ⟨w.heap.size + 1, 0, none⟩) := hO 7 (by simp); show Brings _ (fun v _ => _ ∧ v = _) _; simp only [execOp, Act.eval, h7]; go_simp
      try exact tq
    case s5 =>
      refine stepOk_guard [26, 25] [] (by kernel_rfl) 3 false 25 rfl rfl (by simp) true false (fun _ _ h => h) (fun hc => ?_) (fun hc => by cases hc); intro ac W hT hI hO; have h26 : ac.tmps.getD 26 undef = _ := hI 26 (by simp); show Brings _ (fun v _ => _ ∧ v = _) _; obtain ⟨e0, e1, e2, e3, e4, e5⟩ := cells6 (H7.out W hT); simp only [execOp, Act.eval, h26]; go_simp
      try exact tq
    case s6 =>
      refine stepOk_guard [25] [5] (by kernel_rfl) 3 false 25 rfl rfl (by simp) true false (fun _ _ h => h) (fun hc => ?_) (fun hc => by cases hc); intro ac W hT hI hO; have h5 : ac.tmps.getD 5 undef = .pointer (some ⟨w.heap.size, 0, none⟩) := hO 5 (by simp); show Brings _ (fun v _ => _ ∧ v = _) _; simp only [execOp, Act.eval, h5]; go_simp
      try exact tq
    case s7 =>
      refine stepOk_guard [28, 25] [] (by kernel_rfl) 3 false 25 rfl rfl (by simp) true false (fun _ _ h => h) (fun hc => ?_) (fun hc => by cases hc); intro ac W hT hI hO; have h28 : ac.tmps.getD 28 undef = _ := hI 28 (by simp); show Brings _ (fun v _ => _ ∧ v = _) _; obtain ⟨k0, k1, k2, k3, _⟩ := cells4 (H5.out W hT); simp only [execOp, Act.eval, h28]; go_simp
      try exact tq
    case s8 =>
      refine stepOk_guard [27, 29, 25] [] (by kernel_rfl) 3 false 25 rfl rfl (by simp) true false (fun _ _ h => h) (fun hc => ?_) (fun hc => by cases hc); intro ac W hT hI hO; have h27 : ac.tmps.getD 27 undef = _ := hI 27 (by simp); have h29 : ac.tmps.getD 29 undef = _ := hI 29 (by simp); show Brings _ (fun v _ => _ ∧ v = _) _; simp only [execOp, Act.eval, h27, h29]; go_simp
      try exact tq
    case s9 =>
      refine stepOk_free [25, 30] [] (by kernel_rfl) rfl ?_; intro ac W hT hI hO; have h25 : ac.tmps.getD 25 undef = _ := hI 25 (by simp); have h30 : ac.tmps.getD 30 undef = _ := hI 30 (by simp); show Brings _ (fun v _ => _ ∧ v = _) _; simp only [execOp, Act.eval, h25, h30]; go_simp
      try exact tq
    case s10 =>
      refine stepOk_free [31] [] (by kernel_rfl) rfl ?_; intro ac W hT hI hO; have h31 : ac.tmps.getD 31 undef = _ := hI 31 (by simp); show Brings _ (fun v _ => _ ∧ v = _) _; simp only [execOp, Act.eval, h31]; go_simp
      try exact tq
    case s11 =>
      refine stepOk_guard [32] [0] (by kernel_rfl) 10 false 32 rfl rfl (by simp) true false (fun _ _ h => h) (fun hc => ?_) (fun hc => by cases hc); intro ac W hT hI hO; have h0 : ac.tmps.getD 0 undef = .pointer (some ⟨kb, 0, none⟩) := hO 0 (by simp); show Brings _ (fun v _ => _ ∧ v = _) _; simp only [execOp, Act.eval, h0]; go_simp
      try exact tq
    case s12 =>
      refine stepOk_guard [33, 32] [] (by kernel_rfl) 10 false 32 rfl rfl (by simp) true false (fun _ _ h => h) (fun hc => ?_) (fun hc => by cases hc); intro ac W hT hI hO; have h33 : ac.tmps.getD 33 undef = _ := hI 33 (by simp); show Brings _ (fun v _ => _ ∧ v = _) _; simp only [execOp, Act.eval, h33]; go_simp
      try exact tq
    case s13 =>
      refine stepOk_guard [34, 32] [] (by kernel_rfl) 10 false 32 rfl rfl (by simp) true false (fun _ _ h => h) (fun hc => ?_) (fun hc => by cases hc); intro ac W hT hI hO; have h34 : ac.tmps.getD 34 undef = _ := hI 34 (by simp); show Brings _ (fun v _ => _ ∧ v = _) _; simp only [execOp, Act.eval, h34]; go_simp
      try exact tq
    case s14 =>
      refine stepOk_guard [35, 32] [] (by kernel_rfl) 10 false 32 rfl rfl (by simp) true false (fun _ _ h => h) (fun hc => ?_) (fun hc => by cases hc); intro ac W hT hI hO; have h35 : ac.tmps.getD 35 undef = _ := hI 35 (by simp); show Brings _ (fun v _ => _ ∧ v = _) _; obtain ⟨k0, k1⟩ := cells2 (HC6.out.turned0 hT).b; simp only [execOp, Act.eval, h35]; go_simp
      try exact tq
    case s15 =>
      refine stepOk_guard [32] [7] (by kernel_rfl) 10 false 32 rfl rfl (by simp) true false (fun _ _ h => h) (fun hc => ?_) (fun hc => by cases hc); intro ac W hT hI hO; have h7 : ac.tmps.getD 7 undef = .pointer (some ⟨w.heap.size + 1, 0, none⟩) := hO 7 (by simp); show Brings _ (fun v _ => _ ∧ v = _) _; simp only [execOp, Act.eval, h7]; go_simp
      try exact tq
    case s16 =>
      refine stepOk_guard [37, 32] [] (by kernel_rfl) 10 false 32 rfl rfl (by simp) true false (fun _ _ h => h) (fun hc => ?_) (fun hc => by cases hc); intro ac W hT hI hO; have h37 : ac.tmps.getD 37 undef = _ := hI 37 (by simp); show Brings _ (fun v _ => _ ∧ v = _) _; obtain ⟨e0, e1, e2, e3, e4, e5⟩ := cells6 (H7.out W hT); simp only [execOp, Act.eval, h37]; go_simp
      try exact tq
    case s17 =>
      refine stepOk_guard [36, 38, 32] [] (by kernel_rfl) 10 false 32 rfl rfl (by simp) true false (fun _ _ h => h) (fun hc => ?_) (fun hc => by cases hc); intro ac W hT hI hO; have h36 : ac.tmps.getD 36 undef = _ := hI 36 (by simp); have h38 : ac.tmps.getD 38 undef = _ := hI 38 (by simp); show Brings _ (fun v _ => _ ∧ v = _) _; have hlk := HLK.out W hT; simp only [execOp, Act.eval, h36, h38]; go_simp
      try exact tq
    case s18 =>
      refine stepOk_guard [32] [7] (by kernel_rfl) 10 false 32 rfl rfl (by simp) true false (fun _ _ h => h) (fun hc => ?_) (fun hc => by cases hc); intro ac W hT hI hO; have h7 : ac.tmps.getD 7 undef = .pointer (some ⟨w.heap.size + 1, 0, none⟩) := hO 7 (by simp); show Brings _ (fun v _ => _ ∧ v = _) _; simp only [execOp, Act.eval, h7]; go_simp
      try exact tq
    case s19 =>
      refine stepOk_guard [40, 32] [] (by kernel_rfl) 10 false 32 rfl rfl (by simp) true false (fun _ _ h => h) (fun hc => ?_) (fun hc => by cases hc); intro ac W hT hI hO; have h40 : ac.tmps.getD 40 undef = _ := hI 40 (by simp); show Brings _ (fun v _ => _ ∧ v = _) _; obtain ⟨e0, e1, e2, e3, e4, e5⟩ := cells6 (H7.out W hT); simp only [execOp, Act.eval, h40]; go_simp
      try exact tq
    case s20 =>
      refine stepOk_guard [41, 32] [] (by kernel_rfl) 10 false 32 rfl rfl (by simp) true false (fun _ _ h => h) (fun hc => ?_) (fun hc => by cases hc); intro ac W hT hI hO; have h41 : ac.tmps.getD 41 undef = _ := hI 41 (by simp); show Brings _ (fun v _ => _ ∧ v = _) _; simp only [execOp, Act.eval, h41]; go_simp
      try exact tq
    case s21 =>
      refine stepOk_guard [39, 42, 32] [] (by kernel_rfl) 10 false 32 rfl rfl (by simp) true false (fun _ _ h => h) (fun hc => ?_) (fun hc => by cases hc); intro ac W hT hI hO; have h39 : ac.tmps.getD 39 undef = _ := hI 39 (by simp); have h42 : ac.tmps.getD 42 undef = _ := hI 42 (by simp); show Brings _ (fun v _ => _ ∧ v = _) _; simp only [execOp, Act.eval, h39, h42]; go_simp
      try exact tq
    case s22 =>
      refine stepOk_free [32, 43] [] (by kernel_rfl) rfl ?_; intro ac W hT hI hO; have h32 : ac.tmps.getD 32 undef = _ := hI 32 (by simp); have h43 : ac.tmps.getD 43 undef = _ := hI 43 (by simp); show Brings _ (fun v _ => _ ∧ v = _) _; simp only [execOp, Act.eval, h32, h43]; go_simp
      try exact tq
  case hQ =>
    intro vs7 W7 T7 hV; have q44 : vs7 44 = .bool false := hV 44 (by simp); simp only [List.foldl_cons, List.foldl_nil, List.setIfInBounds_toArray, List.set_cons_zero, List.set_cons_succ, q44]; have HT7 := hid T7; clear hV q44 T7
    go_wp2_with fail
    have HC7 := hid (HC6.out.turned0 HT7.out); have HM7 := hid (fun W (T : Turned (fun q => q = mb) W7 W) => (T.block _ (Array.getElem?_eq_some_iff.1 (H7.out W7 HT7.out)).1 (by have := HLT.out; omega)).trans (H7.out W7 HT7.out)); have HM9 := hid (fun W (T : Turned (fun q => q = mb) W7 W) => (T.block _ (Array.getElem?_eq_some_iff.1 (H9.out W7 HT7.out)).1 (by have := HLT.out; omega)).trans (H9.out W7 HT7.out)); have HMK := hid (fun W (T : Turned (fun q => q = mb) W7 W) => (T.block _ (Array.getElem?_eq_some_iff.1 HC7.out.b).1 (fun e => HC7.out.ne e)).trans HC7.out.b); refine wp_region_k [45, 46, 47, 48, 49, 50] [6] [] (fun dd vv => (match dd with | 45 => vv = .pointer (some ⟨kb, 0, none⟩) | 46 => vv = .pointer (some ⟨kb, 0, none⟩) | 47 => vv = .pointer (some ⟨kb, 1, none⟩) | 48 => vv = .map (some mb) | 49 => vv = .pointer (some ⟨w.heap.size + 1, 2, none⟩) | 50 => vv = .int .i64 s.b | _ => True : Prop)) (MapR 3 mb 6 (had.length) (if (hadF had s.b).isSome then had.length else had.length + 1) (hadF had) (upd (hadF had) s.b (.bool true)) W7) (by kernel_rfl) rfl (by kernel_rfl) (by kernel_rfl) (fun w h => MapR.start HC7.out.m h) (fun hs w w' h ht => h.turned0 ht) ?hs ?hQ
    case hs =>
      refine ⟨?s0, ?s1, ?s2, ?s3, ?s4, ?s5, ?s6, trivial⟩
      case s0 =>
        refine fun hs hl => stepG_free [] [0] (by kernel_rfl) rfl ?_
        intro ac W hT hI hO; have h0 : ac.tmps.getD 0 undef = .pointer (some ⟨kb, 0, none⟩) := hO 0 (by simp); show Brings _ (fun v _ => _ ∧ v = _) _; simp only [execOp, Act.eval, h0]; go_simp
        try exact tq
      case s1 =>
        refine fun hs hl => stepG_free [45] [] (by kernel_rfl) rfl ?_
        intro ac W hT hI hO; have h45 : ac.tmps.getD 45 undef = _ := hI 45 (by simp); show Brings _ (fun v _ => _ ∧ v = _) _; simp only [execOp, Act.eval, h45]; go_simp
        try exact tq
      case s2 =>
        refine fun hs hl => stepG_free [46] [] (by kernel_rfl) rfl ?_
        intro ac W hT hI hO; have h46 : ac.tmps.getD 46 undef = _ := hI 46 (by simp); show Brings _ (fun v _ => _ ∧ v = _) _; simp only [execOp, Act.eval, h46]; go_simp
        try exact tq
      case s3 =>
        refine fun hs hl => stepG_free [47] [] (by kernel_rfl) rfl ?_
        intro ac W hT hI hO; have h47 : ac.tmps.getD 47 undef = _ := hI 47 (by simp); show Brings _ (fun v _ => _ ∧ v = _) _; obtain ⟨k0, k1⟩ := cells2 (HMK.out W hT.t); simp only [execOp, Act.eval, h47]; go_simp
        try exact tq
      case s4 =>
        refine fun hs hl => stepG_free [] [7] (by kernel_rfl) rfl ?_
        intro ac W hT hI hO; have h7 : ac.tmps.getD 7 undef = .pointer (some ⟨w.heap.size + 1, 0, none⟩) := hO 7 (by simp); show Brings _ (fun v _ => _ ∧ v = _) _; simp only [execOp, Act.eval, h7]; go_simp
        try exact tq
      case s5 =>
        refine fun hs hl => stepG_free [49] [] (by kernel_rfl) rfl ?_
        intro ac W hT hI hO; have h49 : ac.tmps.getD 49 undef = _ := hI 49 (by simp); show Brings _ (fun v _ => _ ∧ v = _) _; obtain ⟨e0, e1, e2, e3, e4, e5⟩ := cells6 (HM7.out W hT.t); simp only [execOp, Act.eval, h49]; go_simp
        try exact tq
      case s6 =>
        refine fun hs hno hl => stepG_free [48, 50] [] (by kernel_rfl) rfl ?_
        intro ac W hT hI hO; have h48 : ac.tmps.getD 48 undef = _ := hI 48 (by simp); have h50 : ac.tmps.getD 50 undef = _ := hI 50 (by simp); obtain ⟨w', hr, hm, T⟩ := (hT.old hno).put law3 Try.underlying145 (by unfold maxLen; have := HF.out; omega) (v := .bool true) (key3 HB64.out) trivial; show Brings Try.prog (fun vv w' => MapR 3 mb 6 (had.length) (if (hadF had s.b).isSome then had.length else had.length + 1) (hadF had) (upd (hadF had) s.b (.bool true)) W7 (hs ++ [(6, vv)]) w') _; simp only [execOp, Act.eval, h48, h50, hr]; go_simp; exact hT.put T hm
    case hQ =>
      intro hs8 vs8 W8 hall huniq hR hV; simp only [List.foldl_cons, List.foldl_nil, List.setIfInBounds_toArray, List.set_cons_zero, List.set_cons_succ]; obtain ⟨v8, hv8⟩ := hall 6 (by simp); have hmap := hR.new v8 hv8; rw [had_next.1, had_next.2] at hmap; have HNEW : Hid (Chk kb mb k (hadN had s.b) W8) := ⟨HMK.out W8 hR.t, hmap, HC7.out.ne, by have := HF.out; have := hadN_len had s.b; omega⟩; have HT8 := hid hR.t; obtain ⟨a0, a1, a2, a3, a4, a5⟩ := cells6 (HM7.out W8 hR.t); obtain ⟨b0, b1, b2, b3, b4, b5⟩ := cells6 (HM9.out W8 hR.t); clear hR hV hall huniq hmap hv8; obtain ⟨B, hB⟩ : ∃ B, B = goodNameB ByteArray.empty := ⟨_, rfl⟩; have HB := hid hB
      have hnm0 : ByteArray.empty.size ≤ maxLen := by unfold maxLen; decide
      clear hB
      go_wp2_with (first
        | (go_at_call 63; (with_reducible refine (atomOnly ByteArray.empty hnm0 _).mono ?_); rintro e W9 ⟨rfl, T9⟩)
        | (go_at_call 38; (with_reducible refine (goodAtom ByteArray.empty hnm0 _).mono ?_); rintro e W10 ⟨rfl, T10⟩; rw [← HB.out]))
      go_ret; exact ⟨by rw [← HB.out]; rfl, HNEW.out.turned0 (T9.trans T10), (((HT6.out.trans HT7.out).mono (fun _ _ f => f.elim)).trans HT8.out).trans ((T9.trans T10).mono (fun _ _ f => f.elim))⟩
end Go.Proofs.Ytoihjobdfjajfaa
namespace Go.Proofs.Ytoihjobdfjajfaa
open Go.RowKit Go.Maps
open Tm (Stp sVar sVal sInt sAtom sComp oneC runC endC goodC ne_ops)
def opOk (s : Stp) : Prop := (s.op = sVar ∨ s.op = sVal ∨ s.op = sInt ∨ s.op = sAtom ∨ s.op = sComp) ∧ (s.op = sComp → 1 ≤ s.b ∧ s.b ≤ 8)
section
variable {sl i k : Int} {had : List Int} {s : Stp}
theorem oneC_var (h : s.op = sVar) : oneC sl i k had s = if (0 ≤ s.b ∧ s.b < sl ∧ s.b ∉ had) ∧ (stEqB s ⟨sVar, i, s.b, 0, 0, ByteArray.empty⟩ && goodNameB s.name) = true then some (k, hadN had s.b) else none := by
  unfold oneC; simp only [Bool.and_eq_true, stEqB_iff]
  by_cases h1 : s.a = i ∧ goodNameB s.name = true
  · rw [if_pos h1, if_pos h]
    by_cases h2 : 0 ≤ s.b ∧ s.b < sl ∧ s.b ∉ had ∧ s.c = 0 ∧ s.n = 0 ∧ s.name = ByteArray.empty
    · rw [if_pos h2, if_pos ⟨⟨h2.1, h2.2.1, h2.2.2.1⟩, ⟨h, h1.1, trivial, h2.2.2.2⟩, h1.2⟩]
      unfold hadN; rw [if_neg h2.2.2.1]
    · rw [if_neg h2, if_neg (fun c => h2 ⟨c.1.1, c.1.2.1, c.1.2.2, c.2.1.2.2.2⟩)]
  · rw [if_neg h1, if_neg (fun c => h1 ⟨c.2.1.2.1, c.2.2⟩)]
theorem oneC_val (h : s.op = sVal) : oneC sl i k had s = if (0 ≤ s.b ∧ s.b < sl ∧ s.b ∈ had) ∧ (stEqB s ⟨sVal, i, s.b, 0, 0, ByteArray.empty⟩ && goodNameB s.name) = true then some (k, hadN had s.b) else none := by
  unfold oneC; simp only [Bool.and_eq_true, stEqB_iff]; have hv := ne_ops.1
  by_cases h1 : s.a = i ∧ goodNameB s.name = true
  · rw [if_pos h1, if_neg (by rw [h]; exact hv), if_pos h]
    by_cases h2 : 0 ≤ s.b ∧ s.b < sl ∧ s.b ∈ had ∧ s.c = 0 ∧ s.n = 0 ∧ s.name = ByteArray.empty
    · rw [if_pos h2, if_pos ⟨⟨h2.1, h2.2.1, h2.2.2.1⟩, ⟨h, h1.1, trivial, h2.2.2.2⟩, h1.2⟩]
      unfold hadN; rw [if_pos h2.2.2.1]
    · rw [if_neg h2, if_neg (fun c => h2 ⟨c.1.1, c.1.2.1, c.1.2.2, c.2.1.2.2.2⟩)]
  · rw [if_neg h1, if_neg (fun c => h1 ⟨c.2.1.2.1, c.2.2⟩)]
theorem oneC_int (h : s.op = sInt) : oneC sl i k had s = if (stEqB s ⟨sInt, i, 0, 0, s.n, ByteArray.empty⟩ && goodNameB s.name) = true then some (k, had) else none := by
  unfold oneC; simp only [Bool.and_eq_true, stEqB_iff]; obtain ⟨_, n2, n3, _⟩ := ne_ops
  by_cases h1 : s.a = i ∧ goodNameB s.name = true
  · rw [if_pos h1, if_neg (by rw [h]; exact n2), if_neg (by rw [h]; exact n3), if_pos h]
    by_cases h2 : s.b = 0 ∧ s.c = 0 ∧ s.name = ByteArray.empty
    · rw [if_pos h2, if_pos ⟨⟨h, h1.1, h2.1, h2.2.1, trivial, h2.2.2⟩, h1.2⟩]
    · rw [if_neg h2, if_neg (fun c => h2 ⟨c.1.2.2.1, c.1.2.2.2.1, c.1.2.2.2.2.2⟩)]
  · rw [if_neg h1, if_neg (fun c => h1 ⟨c.1.2.1, c.2⟩)]
theorem oneC_atom (h : s.op = sAtom) : oneC sl i k had s = if (stEqB s ⟨sAtom, i, 0, 0, 0, s.name⟩ && goodNameB s.name) = true then some (k, had) else none := by
  unfold oneC; simp only [Bool.and_eq_true, stEqB_iff]; obtain ⟨_, _, _, n4, n5, n6, _⟩ := ne_ops
  by_cases h1 : s.a = i ∧ goodNameB s.name = true
  · rw [if_pos h1, if_neg (by rw [h]; exact n4), if_neg (by rw [h]; exact n5), if_neg (by rw [h]; exact n6), if_pos h]
    by_cases h2 : s.b = 0 ∧ s.c = 0 ∧ s.n = 0
    · rw [if_pos h2, if_pos ⟨⟨h, h1.1, h2.1, h2.2.1, h2.2.2, trivial⟩, h1.2⟩]
    · rw [if_neg h2, if_neg (fun c => h2 ⟨c.1.2.2.1, c.1.2.2.2.1, c.1.2.2.2.2.1⟩)]
  · rw [if_neg h1, if_neg (fun c => h1 ⟨c.1.2.1, c.2⟩)]
theorem oneC_comp (h : s.op = sComp) (hb : 1 ≤ s.b ∧ s.b ≤ 8) : oneC sl i k had s = if (stEqB s ⟨sComp, i, s.b, k, 0, s.name⟩ && goodNameB s.name) = true then some (k + s.b, had) else none := by
  unfold oneC; simp only [Bool.and_eq_true, stEqB_iff]; obtain ⟨_, _, _, _, _, _, n7, n8, n9, n10⟩ := ne_ops
  by_cases h1 : s.a = i ∧ goodNameB s.name = true
  · rw [if_pos h1, if_neg (by rw [h]; exact n7), if_neg (by rw [h]; exact n8), if_neg (by rw [h]; exact n9), if_neg (by rw [h]; exact n10), if_pos h]
    by_cases h2 : s.c = k ∧ s.n = 0
    · rw [if_pos ⟨hb.1, hb.2, h2⟩, if_pos ⟨⟨h, h1.1, trivial, h2.1, h2.2, trivial⟩, h1.2⟩]
    · rw [if_neg (fun c => h2 c.2.2), if_neg (fun c => h2 ⟨c.1.2.2.2.1, c.1.2.2.2.2.1⟩)]
  · rw [if_neg h1, if_neg (fun c => h1 ⟨c.1.2.1, c.2⟩)]
end
end Go.Proofs.Ytoihjobdfjajfaa
namespace Go.Proofs.Ytoihjobdfjajfaa
open Go.RowKit Go.Maps
open Tm (Stp sVar sVal sInt sAtom sComp oneC runC endC goodC ne_ops)
theorem one149T {kb mb : Nat} {k ar sl rg i : Int} {lv : Value} {had : List Int} {s : Stp} {w : World} {c : Int × List Int} (C : Chk kb mb k had w) (hk : 0 ≤ k ∧ k ≤ 30000) (hf : had.length ≤ 3000) (hs : stOk s) (ho : opOk s) (hr : oneC sl i k had s = some c) :
    Calls Try.prog 149 #[.pointer (some ⟨kb, 0, none⟩), .agg #[.int .i64 ar, .int .i64 sl, .int .i64 rg, lv], .int .i64 i, .agg #[.string s.op, .int .i64 s.a, .int .i64 s.b, .int .i64 s.c, .int .i64 s.n, .string s.name]] w fun e w' => e = .returned (.bool true) ∧ Chk kb mb c.1 c.2 w' ∧ Turned (fun q => q = kb ∨ q = mb) w w' := by
  rcases ho.1 with h | h | h | h | h
  · rw [oneC_var h] at hr
    split at hr
    · rename_i q
      simp only [Bool.and_eq_true, stEqB_iff] at q
      injection hr with hr
      subst hr; refine (one_var_okT (ar := ar) (rg := rg) (lv := lv) C hf hs h q.1.1 q.1.2.1 q.1.2.2 q.2.1.2.1 q.2.1.2.2.2.1 q.2.1.2.2.2.2.1 q.2.1.2.2.2.2.2).mono ?_
      rintro e w' ⟨rfl, C', T⟩
      have hg := q.2.2; rw [q.2.1.2.2.2.2.2] at hg; exact ⟨by rw [hg], C', T.mono (fun _ _ f => .inr f)⟩
    · cases hr
  · rw [oneC_val h] at hr
    split at hr
    · rename_i q
      simp only [Bool.and_eq_true, stEqB_iff] at q
      injection hr with hr
      subst hr; refine (one_val_okT (ar := ar) (rg := rg) (lv := lv) C hf hs h q.1.1 q.1.2.1 q.1.2.2 q.2.1.2.1 q.2.1.2.2.2.1 q.2.1.2.2.2.2.1 q.2.1.2.2.2.2.2).mono ?_
      rintro e w' ⟨rfl, C', T⟩
      have hg := q.2.2; rw [q.2.1.2.2.2.2.2] at hg; exact ⟨by rw [hg], C', T.mono (fun _ _ f => .inr f)⟩
    · cases hr
  · rw [oneC_int h] at hr
    split at hr
    · rename_i q
      injection hr with hr
      subst hr; refine (one_int hs h).mono ?_
      rintro e w' ⟨rfl, T⟩
      exact ⟨by rw [q], C.turned0 T, T.mono (fun _ _ f => f.elim)⟩
    · cases hr
  · rw [oneC_atom h] at hr
    split at hr
    · rename_i q
      injection hr with hr
      subst hr; refine (one_atom hs h).mono ?_
      rintro e w' ⟨rfl, T⟩
      exact ⟨by rw [q], C.turned0 T, T.mono (fun _ _ f => f.elim)⟩
    · cases hr
  · have hb := ho.2 h
    rw [oneC_comp h hb] at hr
    split at hr
    · rename_i q
      simp only [Bool.and_eq_true, stEqB_iff] at q
      injection hr with hr
      subst hr; refine (one_compT (ar := ar) (sl := sl) (rg := rg) (lv := lv) C.b hk hb hs h q.1.2.1 q.1.2.2.2.1 q.1.2.2.2.2.1).mono ?_
      rintro e w' ⟨rfl, hb', T⟩
      exact ⟨by rw [q.2], ⟨hb', C.m.turned T (fun e => C.ne e.symm), C.ne, C.few⟩, T.mono (fun _ _ f => .inl f)⟩
    · cases hr
end Go.Proofs.Ytoihjobdfjajfaa
namespace Go.Proofs.Ytoihjobdfjajfaa
open Go.RowKit Go.Maps
open Tm (Stp sVar sVal sInt sAtom sComp oneC runC endC goodC ne_ops)
theorem oneC_few {sl i k : Int} {had : List Int} {s : Stp} {c : Int × List Int} (ho : opOk s) (h : oneC sl i k had s = some c) : c.2.length ≤ had.length + 1 ∧ k ≤ c.1 ∧ c.1 ≤ k + 8 := by
  rcases ho.1 with q | q | q | q | q
  · rw [oneC_var q] at h
    split at h
    · injection h with h; subst h; exact ⟨hadN_len _ _, by simp only []; omega, by simp only []; omega⟩
    · cases h
  · rw [oneC_val q] at h
    split at h
    · injection h with h; subst h; exact ⟨hadN_len _ _, by simp only []; omega, by simp only []; omega⟩
    · cases h
  · rw [oneC_int q] at h
    split at h
    · injection h with h; subst h; exact ⟨by simp only []; omega, by simp only []; omega, by simp only []; omega⟩
    · cases h
  · rw [oneC_atom q] at h
    split at h
    · injection h with h; subst h; exact ⟨by simp only []; omega, by simp only []; omega, by simp only []; omega⟩
    · cases h
  · have := ho.2 q
    rw [oneC_comp q this] at h
    split at h
    · injection h with h; subst h; exact ⟨by simp only []; omega, by simp only []; omega, by simp only []; omega⟩
    · cases h
structure GoodL (sl ar : Int) (Ls : List Stp) (kb mb : Nat) (w1 : World) (j : Nat) (wr : World) : Prop where
  st : ∃ k had, Chk kb mb k had wr ∧ runC sl Ls 0 ar [] = runC sl (Ls.drop j) j k had ∧ had.length ≤ j ∧ 0 ≤ k ∧ k ≤ 8 + 8 * (j : Int)
  t : Turned (fun q => q = kb ∨ q = mb) w1 wr
end Go.Proofs.Ytoihjobdfjajfaa
namespace Go.Proofs.Ytoihjobdfjajfaa
open Lib (hid)
open Go.RowKit Go.Maps
open Tm (Stp sVar sVal sInt sAtom sComp oneC runC endC goodC ne_ops)
set_option maxRecDepth 100000 in
set_option maxHeartbeats 12800000 in
theorem codeGoodT95 {ar sl rg : Int} {lv : Value} {Ls : List Stp} {w : World} (hr : Row w 139 6 lv Ls.length (Ls.flatMap stC)) (hs : ∀ s ∈ Ls, stOk s ∧ opOk s) (hn : Ls.length ≤ 100000) (hgood : goodC ar sl rg Ls = true) :
    Calls Try.prog 95 #[.agg #[.int .i64 ar, .int .i64 sl, .int .i64 rg, lv]] w fun e w' => e = .returned (.bool true) ∧ Turned (fun _ => False) w w' := by
  obtain ⟨a, cap, rfl⟩ := hr.shape; obtain ⟨n, hn'⟩ : ∃ n, n = Ls.length := ⟨_, rfl⟩; rw [← hn'] at hr
  have hnI : (n : Int) = (Ls.length : Int) := by omega
  rw [← hn']
  by_cases hc : 0 ≤ ar ∧ ar ≤ 8 ∧ ar ≤ rg ∧ rg ≤ 2000 ∧ (Ls.length : Int) = rg
  · have hg : goodC ar sl rg Ls = endC rg sl (runC sl Ls 0 ar []) := by unfold goodC; rw [if_pos hc]
    have hB : true = endC rg sl (runC sl Ls 0 ar []) := by rw [← hg, hgood]
    clear hgood; have HB := hid hB; obtain ⟨h0, h1, h2, h3, h4⟩ := hc; have d0 : decide (ar < 0) = false := decide_eq_false (by omega); have d1 : decide (8 < ar) = false := decide_eq_false (by omega); have d2 : decide (rg < ar) = false := decide_eq_false (by omega); have d3 : decide (2000 < rg) = false := decide_eq_false (by omega)
    have hrg : rg = (n : Int) := by omega
    subst hrg; have HR := hid hr; have HS := hid hs; have HN := hid hn'; have HA := hid (And.intro h0 (And.intro h1 (And.intro h2 h3))); clear hg hB hr hs hn' h0 h1 h2 h3 h4 hnI hn; have hmm := @run_makeMap Try.prog; go_enter Try.func95, Try.ntmps95
    go_wp2_with fail
    have hmap := IMap.made (w.alloc (.cells #[.int .i64 ar, .int .i64 sl, .int .i64 n, .slice a n cap] 104)) Try.prog 3; have hkp := three_boxes w (.cells #[.int .i64 ar, .int .i64 sl, .int .i64 n, .slice a n cap] 104) (.map #[] 0) (.cells #[.int .i64 ar, .map (some (w.heap.size + 1))] 178); obtain ⟨w3, hw3⟩ : ∃ z, z = ((w.alloc (.cells #[.int .i64 ar, .int .i64 sl, .int .i64 n, .slice a n cap] 104)).alloc (.map #[] 0)).alloc (.cells #[.int .i64 ar, .map (some (w.heap.size + 1))] 178) := ⟨_, rfl⟩
    have hC3 : Chk (w.heap.size + 1 + 1) (w.heap.size + 1) ar [] w3 := by
      refine ⟨by rw [hw3]; exact hkp.2.2.2, ?_, by omega, Nat.zero_le _⟩; have := hmap.alloc (.cells #[.int .i64 ar, .map (some (w.heap.size + 1))] 178); rw [show (w.alloc (.cells #[.int .i64 ar, .int .i64 sl, .int .i64 n, .slice a n cap] 104)).heap.size = w.heap.size + 1 from by simp] at this; rw [hw3, hadF_nil]; exact this
    rw [← hw3] at hkp; have HT3 := hid hkp.1; have HC0 := hid hkp.2.1; have HL3 : Hid (GoodL sl ar Ls (w.heap.size + 1 + 1) (w.heap.size + 1) w3 0 w3) := ⟨⟨ar, [], hC3, rfl, Nat.le_refl _, by have := HA.out; omega, by have := HA.out; omega⟩, Turned.refl _ _⟩; have HW3 := hid hw3; clear hmap hkp hC3; rw [← hw3]; clear hw3
    go_loopg [42] n (fun q i wr => ∃ j : Nat, Hid (j + q = n) ∧ j ≤ n ∧ i = .int .i64 j ∧ Hid (GoodL sl ar Ls (w.heap.size + 1 + 1) (w.heap.size + 1) w3 j wr))
    case atStart => exact ⟨0, Nat.zero_add _, Nat.zero_le _, rfl, HL3⟩
    case round =>
      obtain ⟨j, HG, hj, rfl, HL⟩ := hrel; obtain ⟨⟨k, had, C, hrun, hfew, hk0, hk8⟩, T⟩ := HL.out; have HCr := hid C; have HRUN := hid hrun; have HTr := hid T; have HK := hid (And.intro hfew (And.intro hk0 hk8)); have HB0 := hid ((T.block _ (Array.getElem?_eq_some_iff.1 HC0.out).1 (by omega)).trans HC0.out); clear C hrun hfew hk0 hk8 T; have HNC := HA.out
      by_cases hjn : j < n
      · have dj : decide ((j : Int) < (n : Int)) = true := decide_eq_true (by omega)
        obtain ⟨s, hsj⟩ : ∃ s, Ls[j]? = some s := ⟨_, List.getElem?_eq_getElem (by have := HN.out; omega)⟩; have hsm := HS.out s (List.mem_of_getElem? hsj); obtain ⟨g, cap', hcv⟩ := HR.out.shape_pos (by omega)
        injection hcv with e1 _ e2
        subst e1 e2; have hrw := (HR.out.turned0 HT3.out).turned HTr.out (fun q hq e => by have := HR.out.lt q hq; omega); have hcells := step_cells (i := j) (s := s) (by have := hrw; rw [HN.out] at this; exact this) hsj; obtain ⟨e0, e1, e2, e3, e4, e5⟩ := hcells; have HSM := hid hsm
        have HDROP : Hid (Ls.drop j = s :: Ls.drop (j + 1)) := by
          obtain ⟨hl, he⟩ := List.getElem?_eq_some_iff.1 hsj; show Ls.drop j = _; rw [← he]; exact List.drop_eq_getElem_cons hl
        clear hsm hrw hsj; obtain ⟨r0, r1, r2, r3, _⟩ := cells4 HB0.out; obtain ⟨z0, z1⟩ := cells2 HCr.out.b; have TA := (Turned.refl (fun _ => False) wr).alloc (.cells #[.string s.op, .int .i64 s.a, .int .i64 s.b, .int .i64 s.c, .int .i64 s.n, .string s.name] 139); obtain ⟨za0, za1⟩ := cells2 (HCr.out.turned0 TA).b; obtain ⟨ra0, ra1, ra2, ra3, _⟩ := cells4 ((TA.block _ (Array.getElem?_eq_some_iff.1 HB0.out).1 (fun f => f)).trans HB0.out); clear TA
        have hneg : ¬ ((j : Int) < 0) := by omega
        by_cases hjk : (j : Int) < k
        · have dk : decide (k ≤ (j : Int)) = false := decide_eq_false (by omega)
          cases hr : oneC sl j k had s with
          | none =>
            have HR1 := hid hr; exfalso
            have hfal : true = false := by
              rw [HB.out, HRUN.out, HDROP.out, runC, if_pos hjk, hr]; rfl
            cases hfal
          | some c =>
            have HR1 := hid hr
            have HST : Hid (runC sl Ls 0 ar [] = runC sl (Ls.drop (j + 1)) (j + 1) c.1 c.2) := by
              show _ = _; rw [HRUN.out, HDROP.out, runC, if_pos hjk, hr]
            have HFEW := hid (oneC_few HSM.out.2 hr); clear hr
            go_wp2_with (go_at_call 149; (with_reducible refine (one149T (HCr.out.turned0 ((Turned.refl _ wr).alloc _)) (by have := HK.out; omega) (by have := HK.out; omega) HSM.out.1 HSM.out.2 HR1.out).mono ?_); rintro e W1 ⟨rfl, C1, T1⟩; have HC1 := hid C1; have HT1 := hid ((((Turned.refl _ wr).alloc (.cells #[.string s.op, .int .i64 s.a, .int .i64 s.b, .int .i64 s.c, .int .i64 s.n, .string s.name] 139)).trans T1)); clear C1 T1)
            go_roundg (gk - 1)
            case measure => have := HG.out; omega
            case rel => exact ⟨j + 1, show _ = _ by have := HG.out; omega, by omega, by go_num, ⟨⟨c.1, c.2, HC1.out, HST.out, by have := HK.out; have := HFEW.out; omega, by have := HK.out; have := HFEW.out; omega, by have := HK.out; have := HFEW.out; omega⟩, HTr.out.trans HT1.out⟩⟩
        · have dk : decide (k ≤ (j : Int)) = true := decide_eq_true (by omega)
          exfalso
          have hfal : true = false := by
            rw [HB.out, HRUN.out, HDROP.out, runC, if_neg hjk]; rfl
          cases hfal
      · obtain rfl : j = n := by omega
        have dj : decide ((j : Int) < (j : Int)) = false := decide_eq_false (by omega)
        have HEND : Hid (true = (decide (k = (j : Int)) && decide ((had.length : Int) = sl))) := by
          show _ = _; rw [HB.out, HRUN.out, List.drop_eq_nil_of_le (by have := HN.out; omega)]; rfl
        have HLEN := hid (fun W (T : Turned (fun _ => False) wr W) => (HCr.out.turned0 T).m.len Try.underlying145); have HCK := hid (fun W (T : Turned (fun _ => False) wr W) => (HCr.out.turned0 T).b); have HCB := hid (fun W (T : Turned (fun _ => False) wr W) => (T.block _ (Array.getElem?_eq_some_iff.1 HB0.out).1 (fun f => f)).trans HB0.out); have HTE := hid (HT3.out.step HTr.out (fun i hi e => by omega))
        by_cases q1 : k = (j : Int)
        · have b1 : (k == (j : Int)) = true := by simp [q1]
          by_cases q2 : (had.length : Int) = sl
          · have b2 : ((had.length : Int) == sl) = true := by simp [q2]
            have HE2 : Hid (true = true) := rfl; clear q1 q2
            go_wp2_with fail
            refine wp_region_ssa' (G := (fun dd vv W => (match dd with | 62 => vv = .pointer (some ⟨w.heap.size + 1 + 1, 0, none⟩) | 63 => vv = .pointer (some ⟨w.heap.size + 1 + 1, 0, none⟩) | 64 => vv = .pointer (some ⟨w.heap.size + 1 + 1, 0, none⟩) | 65 => vv = .int .i64 k | 66 => vv = .pointer (some ⟨w.heap.size, 2, none⟩) | 67 => vv = .int .i64 j | 68 => vv = .bool true | 69 => vv = .bool true | 70 => vv = .pointer (some ⟨w.heap.size + 1 + 1, 0, none⟩) | 71 => vv = .pointer (some ⟨w.heap.size + 1 + 1, 0, none⟩) | 72 => vv = .pointer (some ⟨w.heap.size + 1 + 1, 1, none⟩) | 73 => vv = .map (some (w.heap.size + 1)) | 74 => vv = .int .i64 had.length | 75 => vv = .pointer (some ⟨w.heap.size, 1, none⟩) | 76 => vv = .int .i64 sl | 77 => vv = .bool true | 78 => vv = .bool true | 2 => vv = .bool true  | _ => True : Prop))) [62, 63, 64, 65, 66, 67, 68, 69, 70, 71, 72, 73, 74, 75, 76, 77, 78, 2] (by kernel_rfl) rfl (by kernel_rfl) ?hG ?hs ?hQ
            case hG => exact fun d v _ _ _ h => h
            case hs =>
              refine ⟨?s0, ?s1, ?s2, ?s3, ?s4, ?s5, ?s6, ?s7, ?s8, ?s9, ?s10, ?s11, ?s12, ?s13, ?s14, ?s15, ?s16, ?s17, trivial⟩
              case s0 =>
                refine stepOk_free [] [3] (by kernel_rfl) rfl ?_; intro ac W hT hI hO; have h3 : ac.tmps.getD 3 undef = .pointer (some ⟨w.heap.size + 1 + 1, 0, none⟩) := hO 3 (by simp); show Brings _ (fun v _ => _ ∧ v = _) _; simp only [execOp, Act.eval, h3]; go_simp
                try exact tq
              case s1 =>
                refine stepOk_free [62] [] (by kernel_rfl) rfl ?_; intro ac W hT hI hO; have h62 : ac.tmps.getD 62 undef = _ := hI 62 (by simp); show Brings _ (fun v _ => _ ∧ v = _) _; simp only [execOp, Act.eval, h62]; go_simp
                try exact tq
              case s2 =>
                refine stepOk_free [63] [] (by kernel_rfl) rfl ?_; intro ac W hT hI hO; have h63 : ac.tmps.getD 63 undef = _ := hI 63 (by simp); show Brings _ (fun v _ => _ ∧ v = _) _; simp only [execOp, Act.eval, h63]; go_simp
                try exact tq
              case s3 =>
                refine stepOk_free [64] [] (by kernel_rfl) rfl ?_; intro ac W hT hI hO; have h64 : ac.tmps.getD 64 undef = _ := hI 64 (by simp); show Brings _ (fun v _ => _ ∧ v = _) _; obtain ⟨k0, k1⟩ := cells2 (HCK.out W hT); simp only [execOp, Act.eval, h64]; go_simp
                try exact tq
              case s4 =>
                refine stepOk_free [] [1] (by kernel_rfl) rfl ?_; intro ac W hT hI hO; have h1 : ac.tmps.getD 1 undef = .pointer (some ⟨w.heap.size, 0, none⟩) := hO 1 (by simp); show Brings _ (fun v _ => _ ∧ v = _) _; simp only [execOp, Act.eval, h1]; go_simp
                try exact tq
              case s5 =>
                refine stepOk_free [66] [] (by kernel_rfl) rfl ?_; intro ac W hT hI hO; have h66 : ac.tmps.getD 66 undef = _ := hI 66 (by simp); show Brings _ (fun v _ => _ ∧ v = _) _; obtain ⟨k0, k1, k2, k3, _⟩ := cells4 (HCB.out W hT); simp only [execOp, Act.eval, h66]; go_simp
                try exact tq
              case s6 =>
                refine stepOk_free [65, 67] [] (by kernel_rfl) rfl ?_; intro ac W hT hI hO; have h65 : ac.tmps.getD 65 undef = _ := hI 65 (by simp); have h67 : ac.tmps.getD 67 undef = _ := hI 67 (by simp); show Brings _ (fun v _ => _ ∧ v = _) _; simp only [execOp, Act.eval, h65, h67]; go_simp
                try exact tq
              case s7 =>
                refine stepOk_free [68] [] (by kernel_rfl) rfl ?_; intro ac W hT hI hO; have h68 : ac.tmps.getD 68 undef = _ := hI 68 (by simp); show Brings _ (fun v _ => _ ∧ v = _) _; simp only [execOp, Act.eval, h68]; go_simp
                try exact tq
              case s8 =>
                refine stepOk_guard [69] [3] (by kernel_rfl) 7 true 69 rfl rfl (by simp) true true (fun _ _ h => h) (fun hc => ?_) (fun hc => by cases hc); intro ac W hT hI hO; have h3 : ac.tmps.getD 3 undef = .pointer (some ⟨w.heap.size + 1 + 1, 0, none⟩) := hO 3 (by simp); show Brings _ (fun v _ => _ ∧ v = _) _; simp only [execOp, Act.eval, h3]; go_simp
                try exact tq
              case s9 =>
                refine stepOk_guard [70, 69] [] (by kernel_rfl) 7 true 69 rfl rfl (by simp) true true (fun _ _ h => h) (fun hc => ?_) (fun hc => by cases hc); intro ac W hT hI hO; have h70 : ac.tmps.getD 70 undef = _ := hI 70 (by simp); show Brings _ (fun v _ => _ ∧ v = _) _; simp only [execOp, Act.eval, h70]; go_simp
                try exact tq
              case s10 =>
                refine stepOk_guard [71, 69] [] (by kernel_rfl) 7 true 69 rfl rfl (by simp) true true (fun _ _ h => h) (fun hc => ?_) (fun hc => by cases hc); intro ac W hT hI hO; have h71 : ac.tmps.getD 71 undef = _ := hI 71 (by simp); show Brings _ (fun v _ => _ ∧ v = _) _; simp only [execOp, Act.eval, h71]; go_simp
                try exact tq
              case s11 =>
                refine stepOk_guard [72, 69] [] (by kernel_rfl) 7 true 69 rfl rfl (by simp) true true (fun _ _ h => h) (fun hc => ?_) (fun hc => by cases hc); intro ac W hT hI hO; have h72 : ac.tmps.getD 72 undef = _ := hI 72 (by simp); show Brings _ (fun v _ => _ ∧ v = _) _; obtain ⟨k0, k1⟩ := cells2 (HCK.out W hT); simp only [execOp, Act.eval, h72]; go_simp
                try exact tq
              case s12 =>
                refine stepOk_guard [73, 69] [] (by kernel_rfl) 7 true 69 rfl rfl (by simp) true true (fun _ _ h => h) (fun hc => ?_) (fun hc => by cases hc); intro ac W hT hI hO; have h73 : ac.tmps.getD 73 undef = _ := hI 73 (by simp); show Brings _ (fun v _ => _ ∧ v = _) _; have hln := HLEN.out W hT; simp only [execOp, Act.eval, h73]; go_simp
                try exact tq
              case s13 =>
                refine stepOk_guard [69] [1] (by kernel_rfl) 7 true 69 rfl rfl (by simp) true true (fun _ _ h => h) (fun hc => ?_) (fun hc => by cases hc); intro ac W hT hI hO; have h1 : ac.tmps.getD 1 undef = .pointer (some ⟨w.heap.size, 0, none⟩) := hO 1 (by simp); show Brings _ (fun v _ => _ ∧ v = _) _; simp only [execOp, Act.eval, h1]; go_simp
                try exact tq
              case s14 =>
                refine stepOk_guard [75, 69] [] (by kernel_rfl) 7 true 69 rfl rfl (by simp) true true (fun _ _ h => h) (fun hc => ?_) (fun hc => by cases hc); intro ac W hT hI hO; have h75 : ac.tmps.getD 75 undef = _ := hI 75 (by simp); show Brings _ (fun v _ => _ ∧ v = _) _; obtain ⟨k0, k1, k2, k3, _⟩ := cells4 (HCB.out W hT); simp only [execOp, Act.eval, h75]; go_simp
                try exact tq
              case s15 =>
                refine stepOk_guard [74, 76, 69] [] (by kernel_rfl) 7 true 69 rfl rfl (by simp) true true (fun _ _ h => h) (fun hc => ?_) (fun hc => by cases hc); intro ac W hT hI hO; have h74 : ac.tmps.getD 74 undef = _ := hI 74 (by simp); have h76 : ac.tmps.getD 76 undef = _ := hI 76 (by simp); show Brings _ (fun v _ => _ ∧ v = _) _; simp only [execOp, Act.eval, h74, h76]; go_simp
                try exact tq
              case s16 =>
                refine stepOk_free [69, 77] [] (by kernel_rfl) rfl ?_; intro ac W hT hI hO; have h69 : ac.tmps.getD 69 undef = _ := hI 69 (by simp); have h77 : ac.tmps.getD 77 undef = _ := hI 77 (by simp); show Brings _ (fun v _ => _ ∧ v = _) _; simp only [execOp, Act.eval, h69, h77]; go_simp
                try exact tq
              case s17 =>
                refine stepOk_free [78] [] (by kernel_rfl) rfl ?_; intro ac W hT hI hO; have h78 : ac.tmps.getD 78 undef = _ := hI 78 (by simp); show Brings _ (fun v _ => _ ∧ v = _) _; simp only [execOp, Act.eval, h78]; go_simp
                try exact tq
            case hQ =>
              intro vs W9 T9 hV; have q2 : vs 2 = .bool true := hV 2 (by simp); simp only [List.foldl_cons, List.foldl_nil, List.setIfInBounds_toArray, List.set_cons_zero, List.set_cons_succ, q2]; have HT9 := hid T9; clear hV q2 T9
              go_wp2_with fail
              go_ret; exact ⟨rfl, HTE.out.trans HT9.out⟩
          · exfalso
            have h := HEND.out; rw [decide_eq_true q1, decide_eq_false q2] at h
            cases h
        · exfalso
          have h := HEND.out; rw [decide_eq_false q1] at h
          cases h
  · exfalso
    unfold goodC at hgood; rw [if_neg (by first | exact hc | (intro c; exact hc c))] at hgood
    cases hgood
end Go.Proofs.Ytoihjobdfjajfaa
namespace Go.Proofs.Ytoihjobdfjajfaa
open Go.RowKit Go.Maps
open Tm (Stp sVar sVal sInt sAtom sComp cb met steps stepX reg)
theorem turned_cell' (W : World) (g j : Nat) (v : Value) : Turned (fun k => k = g) W (W.setCell ⟨g, j, none⟩ v) :=
  (Turned.refl (fun k => k = g) W).setCell (p := ⟨g, j, none⟩) (.inr rfl) v
def slotF (vs : List Int) : Int → Option Value := fun n => if n ∈ vs then some (.int .i64 (Tm.posOf vs n)) else none
theorem slotF_nil : slotF [] = fun _ => none := by funext i; unfold slotF; simp
theorem slotF_snoc {vs : List Int} {v : Int} (h : v ∉ vs) : upd (slotF vs) v (.int .i64 vs.length) = slotF (vs ++ [v]) := by
  funext n
  unfold upd slotF Tm.posOf
  by_cases e : n = v
  · subst e
    rw [if_pos rfl, if_pos (by simp), List.idxOf_append, if_neg h]; simp
  · rw [if_neg e]
    by_cases hm : n ∈ vs
    · rw [if_pos hm, if_pos (List.mem_append_left _ hm), List.idxOf_append, if_pos hm]
    · rw [if_neg hm, if_neg (by simp [hm, e])]
theorem slotF_none {vs : List Int} {v : Int} (h : v ∉ vs) : (slotF vs v).isSome = false := by unfold slotF; rw [if_neg h]; rfl
theorem slotF_get {vs : List Int} {v : Int} (h : v ∈ vs) : (slotF vs v).getD (.int .i64 0) = .int .i64 (Tm.posOf vs v) := by unfold slotF; rw [if_pos h]; rfl
theorem zero3 (w : World) : (zeroValue 3).run Try.prog w = .ok (.int .i64 0) w := by kernel_rfl
theorem slotLook {w : World} {mb n : Nat} {vs : List Int} {v : Int} (h : IMap Try.prog 2 w mb n (slotF vs)) (hv : v ∈ vs) (h64 : I64 v) : (Instr.lookup 172 (.map (some mb)) (.int .i64 v) false).run Try.prog w = .ok (.int .i64 (Tm.posOf vs v)) w := by
  rw [h.look law2 Try.underlying172 (zero3 _) (key2 h64), slotF_get hv]
theorem term_cells {w : World} {l : List LT} {n g cap i : Nat} {x : LT} (h : Row w 27 4 (.slice (some ⟨g, 0, none⟩) n cap) n (l.flatMap LT.cells)) (hi : l[i]? = some x) :
    w.cell? ⟨g, i * 4, none⟩ = some (.int .i64 x.kind) ∧ w.cell? ⟨g, i * 4 + 1, none⟩ = some (.int .i64 x.n) ∧ w.cell? ⟨g, i * 4 + 2, none⟩ = some (.string x.name) ∧ w.cell? ⟨g, i * 4 + 3, none⟩ = some (.slice x.at_.1 x.args.length x.at_.2) := by
  have hc := h.cells rfl; refine ⟨hc _ _ (by have := LT.flat_at hi 0 (by omega); rw [Nat.add_zero] at this; rw [this, LT.cells_eq]; rfl), hc _ _ (by rw [LT.flat_at hi 1 (by omega), LT.cells_eq]; rfl), hc _ _ (by rw [LT.flat_at hi 2 (by omega), LT.cells_eq]; rfl), hc _ _ (by rw [LT.flat_at hi 3 (by omega), LT.cells_eq]; rfl)⟩
def metS (t : LT) (i : Nat) : List Int := (met t.args i).map fun n => (Tm.posOf t.vars n : Int)
structure HeadI (t : LT) (cbk mb hb i : Nat) (sv : Value) (w wr : World) : Prop where
  slots : IMap Try.prog 2 wr mb t.vars.length (slotF t.vars)
  had : IMap Try.prog 3 wr hb (metS t i).length (hadF (metS t i))
  regs : Row wr 27 4 sv (cb t.args i) ((reg t.args i).flatMap LT.cells)
  ins : t.In (fun k => k < w.heap.size) wr
  code : ∃ lv, wr.heap[cbk]? = some (.cells #[.int .i64 t.args.length, .int .i64 t.vars.length, .int .i64 0, lv] 104 (0, 0)) ∧ Row wr 139 6 lv i ((steps t.vars t.args i).flatMap stC) ∧ ∀ k, lv.ownBlock = some k → w.heap.size ≤ k ∧ k ≠ cbk ∧ k ≠ mb ∧ k ≠ hb ∧ sv.ownBlock ≠ some k
  own : ∀ k, sv.ownBlock = some k → w.heap.size ≤ k ∧ k ≠ cbk ∧ k ≠ mb ∧ k ≠ hb
  ne : w.heap.size ≤ cbk ∧ w.heap.size ≤ mb ∧ w.heap.size ≤ hb ∧ cbk ≠ mb ∧ cbk ≠ hb ∧ mb ≠ hb
  t : Turned (fun _ => False) w wr
theorem HeadI.turned0 {t : LT} {cbk mb hb i : Nat} {sv : Value} {w wr w' : World} (h : HeadI t cbk mb hb i sv w wr) (T : Turned (fun _ => False) wr w') : HeadI t cbk mb hb i sv w w' := by
  obtain ⟨lv, h1, h2, h3⟩ := h.code; exact ⟨h.slots.turned T (fun f => f), h.had.turned T (fun f => f), h.regs.turned0 T, h.ins.turned0 T, ⟨lv, (T.block _ (Array.getElem?_eq_some_iff.1 h1).1 (fun f => f)).trans h1, h2.turned0 T, h3⟩, h.own, h.ne, h.t.trans T⟩
theorem Tm.cb_le' {α : Type} {l : List (Tm α)} {i : Nat} (h : i ≤ Tm.sizes l) : Tm.cb l i ≤ Tm.sizes l := by
  have h1 := Tm.reg_le l h; have h2 := Tm.regs_length l; unfold Tm.regs at h2; unfold Tm.cb; omega
structure HeadM (t : LT) (cbk mb hb i : Nat) (sv lv : Value) (w wr : World) : Prop where
  slots : IMap Try.prog 2 wr mb t.vars.length (slotF t.vars)
  had : IMap Try.prog 3 wr hb (metS t (i + 1)).length (hadF (metS t (i + 1)))
  regs : Row wr 27 4 sv (cb t.args (i + 1)) ((reg t.args (i + 1)).flatMap LT.cells)
  ins : t.In (fun k => k < w.heap.size) wr
  c : wr.heap[cbk]? = some (.cells #[.int .i64 t.args.length, .int .i64 t.vars.length, .int .i64 0, lv] 104 (0, 0))
  row : Row wr 139 6 lv i ((steps t.vars t.args i).flatMap stC)
  lvo : ∀ k, lv.ownBlock = some k → w.heap.size ≤ k ∧ k ≠ cbk ∧ k ≠ mb ∧ k ≠ hb ∧ sv.ownBlock ≠ some k
  own : ∀ k, sv.ownBlock = some k → w.heap.size ≤ k ∧ k ≠ cbk ∧ k ≠ mb ∧ k ≠ hb
  ne : w.heap.size ≤ cbk ∧ w.heap.size ≤ mb ∧ w.heap.size ≤ hb ∧ cbk ≠ mb ∧ cbk ≠ hb ∧ mb ≠ hb
  t : Turned (fun _ => False) w wr
section
variable {t : LT} {cbk mb hb i : Nat} {sv sv' lv lv' : Value} {w wr W W' : World}
theorem HeadM.turned0 (h : HeadM t cbk mb hb i sv lv w wr) (T : Turned (fun _ => False) wr W) : HeadM t cbk mb hb i sv lv w W :=
  ⟨h.slots.turned T (fun f => f), h.had.turned T (fun f => f), h.regs.turned0 T, h.ins.turned0 T, (T.block _ (Array.getElem?_eq_some_iff.1 h.c).1 (fun f => f)).trans h.c, h.row.turned0 T, h.lvo, h.own, h.ne, h.t.trans T⟩
theorem HeadI.mid (h : HeadI t cbk mb hb i sv w wr) (hc : wr.heap[cbk]? = some (.cells #[.int .i64 t.args.length, .int .i64 t.vars.length, .int .i64 0, lv] 104 (0, 0))) (hl : Row wr 139 6 lv i ((steps t.vars t.args i).flatMap stC)) (hlo : ∀ k, lv.ownBlock = some k → w.heap.size ≤ k ∧ k ≠ cbk ∧ k ≠ mb ∧ k ≠ hb ∧ sv.ownBlock ≠ some k)
    (T : Turned (fun k => k = hb ∨ sv.ownBlock = some k) wr W) (hhad : IMap Try.prog 3 W hb (metS t (i + 1)).length (hadF (metS t (i + 1)))) (hregs : Row W 27 4 sv' (cb t.args (i + 1)) ((reg t.args (i + 1)).flatMap LT.cells)) (ho : sv'.ownBlock = sv.ownBlock ∨ ∀ k, sv'.ownBlock = some k → wr.heap.size ≤ k) : HeadM t cbk mb hb i sv' lv w W := by
  obtain ⟨n1, n2, n3, n4, n5, n6⟩ := h.ne; have lc := (Array.getElem?_eq_some_iff.1 hc).1; have lm := h.slots.lt; have lh := h.had.lt; refine ⟨h.slots.turned T (fun c => c.elim n6 (fun c => (h.own _ c).2.2.1 rfl)), hhad, hregs, ?_, (T.block _ lc (fun c => c.elim n5 (fun c => (h.own _ c).2.1 rfl))).trans hc, hl.turned T (fun k hk c => c.elim (fun c => (hlo k hk).2.2.2.1 c) (fun c => (hlo k hk).2.2.2.2 c)), fun k hk => ⟨(hlo k hk).1, (hlo k hk).2.1, (hlo k hk).2.2.1, (hlo k hk).2.2.2.1, fun c => ?_⟩, fun k hk => ?_, h.ne, h.t.step T (fun k hk c => c.elim (fun c => by omega) (fun c => by have := (h.own k c).1; omega))⟩
  · refine LT.In.turned T (fun k hk hp c => ?_) (fun k hk hp => hp) t h.ins
    rcases c with c | c
    · omega
    · have := (h.own k c).1; omega
  · rcases ho with ho | ho
    · exact (hlo k hk).2.2.2.2 (ho ▸ c)
    · have := ho k c; have := hl.lt k hk; omega
  · rcases ho with ho | ho
    · exact h.own k (ho ▸ hk)
    · have := ho k hk
      exact ⟨by have := h.t.size; omega, by omega, by omega, by omega⟩
theorem HeadM.next (h : HeadM t cbk mb hb i sv lv w wr) {s : Stp} (hs : steps t.vars t.args (i + 1) = steps t.vars t.args i ++ [s]) (T : Turned (fun k => lv.ownBlock = some k) wr W) (hr : Row W 139 6 lv' (i + 1) ((steps t.vars t.args i).flatMap stC ++ stC s)) (ho : lv'.ownBlock = lv.ownBlock ∨ ∀ k, lv'.ownBlock = some k → wr.heap.size ≤ k)
    (T' : Turned (fun k => k = cbk) W W') (hc : W'.heap[cbk]? = some (.cells #[.int .i64 t.args.length, .int .i64 t.vars.length, .int .i64 0, lv'] 104 (0, 0))) : HeadI t cbk mb hb (i + 1) sv w W' := by
  obtain ⟨n1, n2, n3, n4, n5, n6⟩ := h.ne; have lc := (Array.getElem?_eq_some_iff.1 h.c).1; have lm := h.slots.lt; have lh := h.had.lt
  have hlo' : ∀ k, lv'.ownBlock = some k → w.heap.size ≤ k ∧ k ≠ cbk ∧ k ≠ mb ∧ k ≠ hb ∧ sv.ownBlock ≠ some k := by
    intro k hk
    rcases ho with ho | ho
    · exact h.lvo k (ho ▸ hk)
    · have := ho k hk
      exact ⟨by have := h.t.size; omega, by omega, by omega, by omega, fun c => by have := h.regs.lt k c; omega⟩
  have TT : Turned (fun k => k = cbk ∨ lv.ownBlock = some k) wr W' := (T.mono (fun k _ c => .inr c)).trans (T'.mono (fun k _ c => .inl c)); refine ⟨h.slots.turned TT (fun c => c.elim (fun c => n4 c.symm) (fun c => (h.lvo _ c).2.2.1 rfl)), h.had.turned TT (fun c => c.elim (fun c => n5 c.symm) (fun c => (h.lvo _ c).2.2.2.1 rfl)), h.regs.turned TT (fun k hk c => c.elim (fun c => (h.own k hk).2.1 c) (fun c => (h.lvo k c).2.2.2.2 hk)), ?_, ⟨lv', hc, ?_, hlo'⟩, h.own, h.ne, h.t.step TT (fun k hk c => c.elim (fun c => by omega) (fun c => by have := (h.lvo k c).1; omega))⟩
  · refine LT.In.turned TT (fun k hk hp c => ?_) (fun k hk hp => hp) t h.ins
    rcases c with c | c
    · omega
    · have := (h.lvo k c).1; omega
  · rw [hs, List.flatMap_append]
    have : Row W' 139 6 lv' (i + 1) ((steps t.vars t.args i).flatMap stC ++ stC s) := hr.turned T' (fun k hk c => (hlo' k hk).2.1 c); simpa using this
end
theorem reg_facts {t x : LT} {i : Nat} {w : World} {p : Nat → Prop} (ht : t.In p w) (hg : goodB t = true) (hi : i < Tm.sizes t.args) (hx : (reg t.args i)[i]? = some x) :
    x.In p w ∧ goodOneB x = true ∧ (Tm.regs t.args)[i]? = some x ∧ reg t.args (i + 1) = reg t.args i ++ x.args ∧ cb t.args (i + 1) = cb t.args i + x.args.length ∧ (x.kind = 0 → x.n ∈ t.vars) ∧ cb t.args i ≤ 2000 ∧ x.args.length ≤ 8 := by
  obtain ⟨y, h1, h2, h3⟩ := Tm.regs_some hi
  rw [hx] at h2; injection h2 with h2; subst h2
  have hm : x ∈ t.flat := by rw [Tm.flat_eq]; exact List.mem_cons_of_mem _ (Tm.regs_flats x (List.mem_of_getElem? h1))
  have h := hg; unfold goodB at h; simp only [Bool.and_eq_true, decide_eq_true_eq, List.all_eq_true] at h; have hs := h.1; rw [Tm.size_eq] at hs; have hc := Tm.cb_le' (l := t.args) (i := i) (by omega); refine ⟨LT.In.flat t ht x hm, h.2.2 x hm, h1, h3, (Tm.cb_next h1).1, fun h0 => (Tm.mem_fold _ _ _).2 (.inr ⟨x, hm, h0, rfl⟩), by omega, ?_⟩
  by_cases ha : x.args = []
  · rw [ha]; exact Nat.zero_le _
  · exact (Tm.one_args (h.2.2 x hm) ha).2.2
theorem vars_few {t : LT} (hg : goodB t = true) : t.vars.length ≤ 2000 := by
  have h := hg; unfold goodB at h; simp only [Bool.and_eq_true, decide_eq_true_eq, List.all_eq_true] at h; have hs := h.1
  have : ∀ (l : List LT) (vs : List Int), (l.foldl Tm.addVar vs).length ≤ vs.length + l.length := by
    intro l
    induction l with
    | nil => intro vs; simp
    | cons y l ih =>
      intro vs; rw [List.foldl_cons, List.length_cons]; have := ih (Tm.addVar vs y)
      have h2 : (Tm.addVar vs y).length ≤ vs.length + 1 := by unfold Tm.addVar; split <;> simp
      omega
  have h3 := this t.flat []; rw [Tm.flat_length] at h3; unfold Tm.vars; simp at h3; omega
theorem metS_mem {t : LT} {i : Nat} {v : Int} (hv : v ∈ t.vars) : (Tm.posOf t.vars v : Int) ∈ metS t i ↔ v ∈ met t.args i := by
  unfold metS; constructor
  · intro h
    obtain ⟨u, hu, e⟩ := List.mem_map.1 h; have e' : Tm.posOf t.vars u = Tm.posOf t.vars v := Int.ofNat.inj e
    have huv : u ∈ t.vars := by
      obtain ⟨y, hy, h0, rfl⟩ := Tm.mem_met hu; exact (Tm.mem_fold _ _ _).2 (.inr ⟨_, by rw [Tm.flat_eq]; exact List.mem_cons_of_mem _ hy, h0, rfl⟩)
    have p1 := Tm.posOf_mem huv; have p2 := Tm.posOf_mem hv; rw [e', p2] at p1
    injection p1 with p1
    rw [p1]; exact hu
  · exact fun h => List.mem_map.2 ⟨_, h, rfl⟩
theorem metS_next {t x : LT} {i : Nat} (hx : (Tm.regs t.args)[i]? = some x) : metS t (i + 1) = if x.kind = 0 ∧ x.n ∉ met t.args i then metS t i ++ [(Tm.posOf t.vars x.n : Int)] else metS t i := by
  unfold metS; rw [Tm.met_succ hx]; unfold Tm.addVar
  split
  · rw [List.map_append]; rfl
  · rfl
theorem metS_few {t : LT} {i : Nat} (hg : goodB t = true) (hi : i ≤ Tm.sizes t.args) : (metS t i).length ≤ 2000 := by
  unfold metS; rw [List.length_map]; unfold met
  have : ∀ (l : List LT) (vs : List Int), (l.foldl Tm.addVar vs).length ≤ vs.length + l.length := by
    intro l
    induction l with
    | nil => intro vs; simp
    | cons y l ih =>
      intro vs; rw [List.foldl_cons, List.length_cons]; have := ih (Tm.addVar vs y)
      have h2 : (Tm.addVar vs y).length ≤ vs.length + 1 := by unfold Tm.addVar; split <;> simp
      omega
  have h3 := this ((Tm.regs t.args).take i) []; have h4 : ((Tm.regs t.args).take i).length ≤ i := List.length_take_le _ _; have h := hg; unfold goodB at h; simp only [Bool.and_eq_true, decide_eq_true_eq, List.all_eq_true] at h; have hs := h.1; rw [Tm.size_eq] at hs; simp at h3; simp at h4; omega
end Go.Proofs.Ytoihjobdfjajfaa
namespace Go.Proofs.Ytoihjobdfjajfaa
open Go.RowKit Go.Maps
open Tm (Stp sVar sVal sInt sAtom sComp cb met steps stepX stepAt goodC)
theorem small_ops : sVar.size ≤ maxLen ∧ sVal.size ≤ maxLen ∧ sInt.size ≤ maxLen ∧ sAtom.size ≤ maxLen ∧ sComp.size ≤ maxLen := by
  unfold maxLen; decide
theorem step_ok {t x : LT} {p : Nat → Prop} {w : World} {i : Nat} (ht : t.In p w) (hg : goodB t = true) (hx : (Tm.regs t.args)[i]? = some x) : stOk (stepX t.vars t.args i x) ∧ opOk (stepX t.vars t.args i x) := by
  have hm : x ∈ t.flat := by rw [Tm.flat_eq]; exact List.mem_cons_of_mem _ (Tm.regs_flats x (List.mem_of_getElem? hx))
  have hxin := LT.In.flat t ht x hm; have h := hg; unfold goodB at h; simp only [Bool.and_eq_true, decide_eq_true_eq, List.all_eq_true] at h; have hone := h.2.2 x hm; have hs := h.1; rw [Tm.size_eq] at hs
  have hi : i < Tm.sizes t.args := by have := (List.getElem?_eq_some_iff.1 hx).1; rw [Tm.regs_length] at this; exact this
  have hcb := Tm.cb_le' (l := t.args) (i := i) (by omega); have hvf := vars_few hg; obtain ⟨z1, z2, z3, z4, z5⟩ := small_ops; obtain ⟨n1, n2, n3, n4, n5, n6, n7, n8, n9, n10⟩ := Tm.ne_ops
  have he : ByteArray.empty.size ≤ maxLen := by unfold maxLen; decide
  unfold stepX
  by_cases h0 : x.kind = 0
  · have hv : x.n ∈ t.vars := (Tm.mem_fold _ _ _).2 (.inr ⟨x, hm, h0, rfl⟩)
    have hp := List.idxOf_lt_length_of_mem hv; rw [if_pos h0]; refine ⟨⟨?_, by simp only []; unfold I64; omega, by simp only []; unfold I64 Tm.posOf; omega, by simp only []; unfold I64; omega, by simp only []; unfold I64; omega, he⟩, ?_, fun c => ?_⟩
    · simp only []; split <;> assumption
    · simp only []; split <;> simp
    · simp only [] at c
      split at c
      · exact absurd c.symm n8
      · exact absurd c.symm n7
  · rw [if_neg h0]
    by_cases h1 : x.kind = 1
    · rw [if_pos h1]
      exact ⟨⟨z3, by simp only []; unfold I64; omega, by simp only []; unfold I64; omega, by simp only []; unfold I64; omega, hxin.n, he⟩, .inr (.inr (.inl rfl)), fun c => absurd c.symm n9⟩
    · have h2 : x.kind = 2 := by
        by_cases h2 : x.kind = 2
        · exact h2
        · rw [goodOneB_3 x h0 h1 h2] at hone; cases hone
      rw [goodOneB_2 x h2] at hone; simp only [Bool.and_eq_true, decide_eq_true_eq] at hone; rw [if_neg h1]
      by_cases ha : x.args.length = 0
      · rw [if_pos ha]
        exact ⟨⟨z4, by simp only []; unfold I64; omega, by simp only []; unfold I64; omega, by simp only []; unfold I64; omega, by simp only []; unfold I64; omega, hxin.name⟩, .inr (.inr (.inr (.inl rfl))), fun c => absurd c.symm n10⟩
      · rw [if_neg ha]
        exact ⟨⟨z5, by simp only []; unfold I64; omega, by simp only []; unfold I64; omega, by simp only []; unfold I64; omega, by simp only []; unfold I64; omega, hxin.name⟩, .inr (.inr (.inr (.inr rfl))), fun _ => ⟨by simp only []; omega, by simp only []; omega⟩⟩
theorem steps_ok {t : LT} {p : Nat → Prop} {w : World} {k : Nat} (ht : t.In p w) (hg : goodB t = true) (hk : k ≤ Tm.sizes t.args) : ∀ s ∈ steps t.vars t.args k, stOk s ∧ opOk s := by
  intro s hs; unfold steps at hs; obtain ⟨i, hi, rfl⟩ := List.mem_map.1 hs; rw [List.mem_range] at hi; obtain ⟨x, hx, _, _⟩ := Tm.regs_some (l := t.args) (i := i) (by omega); unfold stepAt; rw [hx]; exact step_ok ht hg hx
theorem goodHead95 {t : LT} {p : Nat → Prop} {w : World} {lv : Value} (ht : t.In p w) (hg : goodB t = true) (hk : t.kind = 2) (hr : Row w 139 6 lv (Tm.sizes t.args) ((steps t.vars t.args (Tm.sizes t.args)).flatMap stC)) :
    Calls Try.prog 95 #[.agg #[.int .i64 t.args.length, .int .i64 t.vars.length, .int .i64 (Tm.sizes t.args), lv]] w fun e w' => e = .returned (.bool true) ∧ Turned (fun _ => False) w w' := by
  have hl := Tm.steps_length t.vars t.args (Tm.sizes t.args); have h := hg; unfold goodB at h; simp only [Bool.and_eq_true, decide_eq_true_eq, List.all_eq_true] at h; have hs := h.1; rw [Tm.size_eq] at hs; have := codeGoodT95 (ar := t.args.length) (sl := t.vars.length) (rg := (Tm.sizes t.args : Int)) (lv := lv) (Ls := steps t.vars t.args (Tm.sizes t.args)) (w := w) (by rw [hl]; exact hr) (steps_ok ht hg (Nat.le_refl _)) (by rw [hl]; omega) (Tm.head_good hg hk); exact this
end Go.Proofs.Ytoihjobdfjajfaa
namespace Go.Proofs.Ytoihjobdfjajfaa
open Go.RowKit Go.Maps
theorem Row.moved {w W : World} {e : TypeId} {size n : Nat} {v : Value} {xs : List Value} (h : Row w e size v n xs) (hb : ∀ g o, v.ownBlock = some g → w.heap[g]? = some o → W.heap[g]? = some o) : Row W e size v n xs := by
  refine ⟨h.1, ?_⟩
  rcases h.2 with h2 | ⟨g, cap, cur, rfl, hg, h2⟩
  · exact .inl h2
  · exact .inr ⟨g, cap, cur, rfl, hb g _ rfl hg, h2⟩
section
variable {N bb m : Nat} {bx : List (Nat × Obj)} {ts : List LT} {w1 w0 W : World} {tr : Tm.Trail}
theorem BM.row {e : TypeId} {size n : Nat} {v : Value} {xs : List Value} (h : BM N bb bx ts w1 m tr w0) (T : Turned (fun _ => False) w0 W) (hr : Row W e size v n xs) (hn : ∀ k, v.ownBlock = some k → w0.heap.size ≤ k) :
    ∃ bx', BM N bb (bx' ++ bx) ts w1 m tr W ∧ ∀ W', (∀ b ∈ bx' ++ bx, W'.heap[b.1]? = some b.2) → Row W' e size v n xs := by
  cases hv : v.ownBlock with
  | none => exact ⟨[], h.turned0 T, fun W' _ => hr.moved (fun g o hg => by rw [hv] at hg; cases hg)⟩
  | some g =>
    obtain ⟨o, ho⟩ : ∃ o, W.heap[g]? = some o := by
      rcases hr.2 with ⟨rfl, _⟩ | ⟨g', cap, cur, rfl, hg, _⟩
      · cases hv
      · have : g' = g := by simpa [Value.ownBlock] using hv
        exact ⟨_, this ▸ hg⟩
    refine ⟨[(g, o)], h.keepBox T (hn g hv) ho, fun W' hW => hr.moved (fun g' o' hg' ho' => ?_)⟩; rw [hv] at hg'; obtain rfl := Option.some.inj hg'; rw [ho] at ho'; obtain rfl := Option.some.inj ho'; exact hW (g, o) (List.mem_cons_self ..)
end
theorem blanks_V (n : Nat) : (blanks n).map Tm.bare = List.replicate n (Tm.V 0) := by
  unfold blanks; rw [List.map_replicate]; rfl
end Go.Proofs.Ytoihjobdfjajfaa
namespace Go.Proofs.Ytoihjobdfjajfaa
open Go.RowKit Go.Maps
theorem goodHead95' {t : LT} {p : Nat → Prop} {w w' : World} {lv : Value} (ht : t.In p w') (hg : goodB t = true) (hk : t.kind = 2) (hr : Row w 139 6 lv (Tm.sizes t.args) ((Tm.steps t.vars t.args (Tm.sizes t.args)).flatMap stC)) :
    Calls Try.prog 95 #[.agg #[.int .i64 t.args.length, .int .i64 t.vars.length, .int .i64 (Tm.sizes t.args), lv]] w fun e w' => e = .returned (.bool true) ∧ Turned (fun _ => False) w w' := by
  have hl := Tm.steps_length t.vars t.args (Tm.sizes t.args); have h := hg; unfold goodB at h; simp only [Bool.and_eq_true, decide_eq_true_eq, List.all_eq_true] at h; have hs := h.1; rw [Tm.size_eq] at hs; have := codeGoodT95 (ar := t.args.length) (sl := t.vars.length) (rg := (Tm.sizes t.args : Int)) (lv := lv) (Ls := Tm.steps t.vars t.args (Tm.sizes t.args)) (w := w) (by rw [hl]; exact hr) (steps_ok ht hg (Nat.le_refl _)) (by rw [hl]; omega) (Tm.head_good hg hk); exact this
section
variable {N bb : Nat} {bx : List (Nat × Obj)} {ts : List LT} {w1 W : World} {t : LT}
theorem own_self (hg : goodB t = true) {m : Nat} (hv : ∀ v ∈ t.vars, v < (m : Int)) : Tm.ownB m t = true := by
  unfold Tm.ownB; rw [hg, Bool.true_and, List.all_eq_true]
  exact fun v h => decide_eq_true (hv v h)
theorem selfMatch121 {aL : Option Addr} {cL : Nat} (hN : N = w1.heap.size) (h : BM N bb bx ts w1 1001 [] W) (htm : t ∈ ts) (hg : goodB t = true) (hk : t.kind = 2) (hsz : t.size ≤ 100) (hvl : t.vars.length ≤ 100) (hv : ∀ v ∈ t.vars, v ≤ 1000)
    (hrow : ∀ W', (∀ b ∈ bx, W'.heap[b.1]? = some b.2) → Row W' 139 6 (.slice aL (Tm.sizes t.args) cL) (Tm.sizes t.args) ((Tm.steps t.vars t.args (Tm.sizes t.args)).flatMap stC)) :
    Calls Try.prog 121 #[.pointer (some ⟨bb, 0, none⟩), .agg #[.int .i64 (t.args.length : Int), .int .i64 (t.vars.length : Int), .int .i64 (Tm.sizes t.args : Int), .slice aL (Tm.sizes t.args) cL], .slice t.at_.1 t.args.length t.at_.2] W fun e w' =>
      ∃ (gs : Nat) (ss : List LT) (cur : Array Value), e = .returned (.tuple #[.slice (some ⟨gs, 0, none⟩) t.vars.length t.vars.length, .bool true, .int .i64 0]) ∧ ss.map Tm.bare = t.vars.map Tm.V ∧ Row w' 27 4 (.slice (some ⟨gs, 0, none⟩) t.vars.length t.vars.length) t.vars.length (ss.flatMap LT.cells) ∧ BM N bb ((gs, .cells cur 27 (0, 0)) :: bx) (ss ++ ts) w1 1001 [] w' := by
  have hs : Tm.sizes t.args + 1 ≤ 100 := by rw [Tm.size_eq] at hsz; omega
  have hal := Tm.lens_le t.args; have hL := Tm.steps_length t.vars t.args (Tm.sizes t.args)
  have hv' : ∀ v ∈ t.vars, v < ((1001 : Nat) : Int) := fun v h => by have := hv v h; omega
  have hot := own_self (m := 1001) hg hv'
  have hob : Tm.ownB 1001 t.bare = true := by rw [ownB_bare]; exact hot
  have hoa : ∀ y ∈ t.args, Tm.ownB 1001 y.bare = true := fun y hy => Tm.ownB_arg hob (by rw [Tm.bare_kind]; omega) (by rw [Tm.bare_args, Tm.bares_eq]; exact List.mem_map_of_mem hy)
  have hbe : t.bare.args = t.args.map Tm.bare := by rw [Tm.bare_args, Tm.bares_eq]
  obtain ⟨st, hst, h1, h2, h3⟩ := Tm.self_match hg hk hv' (by omega)
  have hstart : (⟨1001, [], Tm.putAt ((blanks (Tm.sizes t.args)).map Tm.bare) 0 t.bare.args, (blanks t.vars.length).map Tm.bare⟩ : Tm.MS) = Tm.startM t 1001 (t.args.map Tm.bare) := by
    unfold Tm.startM; rw [blanks_V, blanks_V, hbe]
  have hin := h.terms t htm
  have hrun := runOk_head (tr := []) hg (fun x hx => by
    have := LT.In.flat t hin x (by rw [Tm.flat_eq]; exact List.mem_cons_of_mem _ (Tm.regs_flats x hx))
    exact ⟨this.n, this.name⟩)
  have hinv := Tm.start_inv (t := t) (m := 1001) (a := t.args.map Tm.bare) (by omega) (List.length_map ..) (fun z hz => by obtain ⟨y, hy, rfl⟩ := List.mem_map.1 hz; exact hoa y hy)
  have hm := match121 (R := Tm.sizes t.args) (S := t.vars.length) (L := Tm.steps t.vars t.args (Tm.sizes t.args)) (Inv := HInv t []) (aL := aL) (cL := cL) (x := t) hN h htm ⟨hal, by omega⟩ (by omega) (by rw [hL]; omega)
    (fun W' hW => by rw [hL]; exact hrow W' hW) (fun W' hW => by
      rw [hL]
      exact goodHead95' hin hg hk (hrow W' hW)) (fun y hy => by rw [← ownB_bare]; exact hoa y hy) hrun (by rw [hstart]; exact ⟨Nat.zero_le _, hinv, ⟨[], rfl⟩, by show 1001 + _ ≤ _; omega⟩)
  rw [hL, hstart] at hm; refine hm.mono ?_; intro e w' hq; have hr : Tm.runM (Tm.startM t 1001 (t.args.map Tm.bare)) (Tm.steps t.vars t.args (Tm.sizes t.args)) = .go st := hst; rw [hr] at hq; obtain ⟨gs, ss, cur, e1, e2, e3, e4⟩ := hq; rw [h1, h2] at e4; exact ⟨gs, ss, cur, e1, e2.trans h3, e3, e4⟩
end
end Go.Proofs.Ytoihjobdfjajfaa
