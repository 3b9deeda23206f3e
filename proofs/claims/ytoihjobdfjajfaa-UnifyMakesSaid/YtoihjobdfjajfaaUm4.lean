/- Merged texts: BU1, BU2, BU3, BU4, BL1, BV1, UM1, DB1, DB2, DB3, DB4, DB5, DB6, DP1, DL1, UB1, CompN. -/
import Derived.Test.YtoihjobdfjajfaaUm3
namespace Go.Proofs.Ytoihjobdfjajfaa
open Go.RowKit Go.Maps
set_option linter.unusedVariables false
set_option linter.unusedSimpArgs false
abbrev PT := LT × LT
def PT.cells (q : PT) : List Value := q.1.cells ++ q.2.cells
theorem PT.cells_length (q : PT) : (PT.cells q).length = 8 := by unfold PT.cells; rw [List.length_append, LT.cells_length, LT.cells_length]
theorem PT.cells_one (q : PT) : ∀ u ∈ PT.cells q, u.oneCell' = true := by
  intro u hu
  rcases List.mem_append.1 hu with h | h
  · exact LT.cells_one _ u h
  · exact LT.cells_one _ u h
theorem PT.flat_length (l : List PT) : (l.flatMap PT.cells).length = l.length * 8 := by
  induction l with
  | nil => rfl
  | cons x l ih => rw [List.flatMap_cons, List.length_append, PT.cells_length, ih, List.length_cons]; omega
structure UK (p : Nat → Prop) (bb K : Nat) (v : Value) (st : List PT) (c : Int) (O : Nat → Prop) (m : Nat) (l : TL) (w : World) : Prop where
  bo : BO p bb O m l w
  k : w.heap[K]? = some (.cells #[.pointer (some ⟨bb, 0, none⟩), v, .int .i64 c] 190 (0, 0))
  row : Row w 187 8 v st.length (st.flatMap PT.cells)
  mem : ∀ q ∈ st, (q.1.In p w ∧ Tm.ownB m q.1.bare = true) ∧ q.2.In p w ∧ Tm.ownB m q.2.bare = true
  kO : ¬ O K ∧ ¬ p K
  vO : ∀ g, v.ownBlock = some g → ¬ O g ∧ ¬ p g ∧ g ≠ K
def ownU (K : Nat) (v : Value) (O : Nat → Prop) (k : Nat) : Prop := k = K ∨ v.ownBlock = some k ∨ O k
section
variable {p O : Nat → Prop} {bb K m : Nat} {v : Value} {st : List PT} {c : Int} {l : TL} {w w' : World}
theorem UK.kcells (h : UK p bb K v st c O m l w) : w.cell? ⟨K, 0, none⟩ = some (.pointer (some ⟨bb, 0, none⟩)) ∧ w.cell? ⟨K, 1, none⟩ = some v ∧ w.cell? ⟨K, 2, none⟩ = some (.int .i64 c) ∧ w.frozen? ⟨K, 1, none⟩ = false ∧ w.frozen? ⟨K, 2, none⟩ = false :=
  ⟨by rw [cell_of_row w K 0 _ 190 (0, 0) h.k]; rfl, by rw [cell_of_row w K 1 _ 190 (0, 0) h.k]; rfl, by rw [cell_of_row w K 2 _ 190 (0, 0) h.k]; rfl, frozen_of_row w K 1 _ 190 h.k, frozen_of_row w K 2 _ 190 h.k⟩
theorem UK.turned0 (h : UK p bb K v st c O m l w) (T : Turned (fun _ => False) w w') : UK p bb K v st c O m l w' :=
  ⟨h.bo.turned0 T, (T.block _ (Array.getElem?_eq_some_iff.1 h.k).1 (fun f => f)).trans h.k, h.row.turned0 T, fun q hq => ⟨⟨(h.mem q hq).1.1.turned0 T, (h.mem q hq).1.2⟩, (h.mem q hq).2.1.turned0 T, (h.mem q hq).2.2⟩, h.kO, h.vO⟩
theorem UK.own_lt (h : UK p bb K v st c O m l w) : ∀ k, ownU K v O k → k < w.heap.size := by
  rintro k (rfl | e | e)
  · exact (Array.getElem?_eq_some_iff.1 h.k).1
  · exact h.row.lt k e
  · exact h.bo.lt k e
theorem UK.cost (h : UK p bb K v st c O m l w) (c' : Int) : UK p bb K v st c' O m l (w.setCell ⟨K, 2, none⟩ (.int .i64 c')) ∧ Turned (fun k => k = K) w (w.setCell ⟨K, 2, none⟩ (.int .i64 c')) := by
  have T : Turned (fun k => k = K) w (w.setCell ⟨K, 2, none⟩ (.int .i64 c')) := (Turned.refl (fun k => k = K) w).setCell (p := ⟨K, 2, none⟩) (.inr rfl) _
  have hp : ∀ q : LT, q.In p w → q.In p (w.setCell ⟨K, 2, none⟩ (.int .i64 c')) := fun q hq => LT.In.turned T (fun k _ hk e => h.kO.2 (e ▸ hk)) (fun _ _ hk => hk) q hq
  refine ⟨⟨h.bo.turned T (fun k hk e => ⟨fun c => h.kO.1 (e ▸ c), fun c => h.kO.2 (e ▸ c)⟩), ?_, h.row.turned T (fun k hk e => (h.vO k hk).2.2 e), fun q hq => ⟨⟨hp _ (h.mem q hq).1.1, (h.mem q hq).1.2⟩, hp _ (h.mem q hq).2.1, (h.mem q hq).2.2⟩, h.kO, h.vO⟩, T⟩
  have := heap_setCell_same w K 2 _ 190 (.int .i64 c') h.k
  simpa using this
end
def UA (p : Nat → Prop) (bb K : Nat) (v : Value) (st : List PT) (c' : Int) (O : Nat → Prop) (m : Nat) (l' : Tm.Trail) (w w' : World) : Prop :=
  ∃ (l2 : TL) (O' : Nat → Prop), bt l2 = l' ∧ UK p bb K v st c' O' m l2 w' ∧ (∀ k, O' k → k < w.heap.size → O k) ∧ Turned (ownU K v O) w w'
def UQ (p : Nat → Prop) (bb K : Nat) (v : Value) (st : List PT) (O : Nat → Prop) (m : Nat) (l : TL) (w : World) : Tm.UR → Ending → World → Prop
  | .ok l' left', e, w' => e = .returned (.tuple #[.bool true, .int .i64 0]) ∧ UA p bb K v st (2000 - (left' : Int)) O m l' w w'
  | .no q, e, w' => e = .returned (.tuple #[.bool false, .int .i64 0]) ∧ UA p bb K v st (2000 - (q : Int)) O m (bt l) w w'
  | .over, e, w' => e = .returned (.tuple #[.bool false, .int .i64 12]) ∧ ∃ c', UA p bb K v st c' O m (bt l) w w'
theorem UA.same {p O : Nat → Prop} {bb K m : Nat} {v : Value} {st : List PT} {c : Int} {l : TL} {w w' : World} (h : UK p bb K v st c O m l w') (T : Turned (ownU K v O) w w') : UA p bb K v st c O m (bt l) w w' := ⟨l, O, rfl, h, fun _ hk _ => hk, T⟩
theorem UK.after {p O : Nat → Prop} {bb K m : Nat} {v : Value} {st : List PT} {c : Int} {l l2 : TL} {w w' : World} (h : UK p bb K v st c O m l w) (A : After p bb O m l2 w w') : ∃ O', UK p bb K v st c O' m l2 w' ∧ (∀ k, O' k → k < w.heap.size → O k) ∧ Turned O w w' := by
  obtain ⟨O', a1, a2, a3⟩ := A
  have hkl := (Array.getElem?_eq_some_iff.1 h.k).1
  have hp : ∀ q : LT, q.In p w → q.In p w' := fun q hq => LT.In.turned a3 (fun k _ hk e => h.bo.sep k hk e) (fun _ _ hk => hk) q hq
  exact ⟨O', ⟨a1, (a3.block K hkl h.kO.1).trans h.k, h.row.turned a3 (fun k hk e => (h.vO k hk).1 e), fun q hq => ⟨⟨hp _ (h.mem q hq).1.1, (h.mem q hq).1.2⟩, hp _ (h.mem q hq).2.1, (h.mem q hq).2.2⟩, ⟨fun e => h.kO.1 (a2 K e hkl), h.kO.2⟩, fun g hg => ⟨fun e => (h.vO g hg).1 (a2 g e (h.row.lt g hg)), (h.vO g hg).2⟩⟩, a2, a3⟩
section
variable {p O : Nat → Prop} {bb K m : Nat} {v : Value} {st : List PT} {c : Nat} {l : TL} {w w' : World}
set_option maxRecDepth 100000 in
set_option maxHeartbeats 12800000 in
theorem tie183 {xv t : LT} (h : UK p bb K v st c O m l w) (hc : c ≤ 2000) (ht : t.In p w) (hg : Tm.ownB m t.bare = true) (hk : ¬ t.kind = 0) (h0 : 0 ≤ xv.n) (h1 : xv.n < (m : Int)) (hd : xv.n ∉ Tm.dom (bt l)) :
    Calls Try.prog 183 #[.pointer (some ⟨K, 0, none⟩), xv.val, t.val] w (UQ p bb K v st O m l w (Tm.tieU (bt l) (2000 - c) xv.n t.bare)) := by
  have h2 := twoBox w (.cells #[.int .i64 xv.kind, .int .i64 xv.n, .string xv.name, .slice xv.at_.1 xv.args.length xv.at_.2] 27) (.cells #[.int .i64 t.kind, .int .i64 t.n, .string t.name, .slice t.at_.1 t.args.length t.at_.2] 27)
  obtain ⟨w2, hw2⟩ : ∃ z, z = (w.alloc (.cells #[.int .i64 xv.kind, .int .i64 xv.n, .string xv.name, .slice xv.at_.1 xv.args.length xv.at_.2] 27)).alloc (.cells #[.int .i64 t.kind, .int .i64 t.n, .string t.name, .slice t.at_.1 t.args.length t.at_.2] 27) := ⟨_, rfl⟩
  rw [← hw2] at h2
  have hbx : ∀ W, Turned (fun _ => False) w2 W → W.heap[w.heap.size]? = some (.cells #[.int .i64 xv.kind, .int .i64 xv.n, .string xv.name, .slice xv.at_.1 xv.args.length xv.at_.2] 27 (0, 0)) ∧ W.heap[w.heap.size + 1]? = some (.cells #[.int .i64 t.kind, .int .i64 t.n, .string t.name, .slice t.at_.1 t.args.length t.at_.2] 27 (0, 0)) := fun W hW => ⟨(hW.block _ (by have := h2.2.1; omega) (fun f => f)).trans h2.2.2.1, (hW.block _ (by have := h2.2.1; omega) (fun f => f)).trans h2.2.2.2⟩
  have hsl : slim t := good_slim (by rw [← goodB_bare]; exact (Tm.ownB_iff.1 hg).1)
  obtain ⟨R, hR⟩ : ∃ z, z = Tm.hasL (2000 - c) xv.n 0 (Tm.img (bt l) t.bare).flat := ⟨_, rfl⟩
  have hhas : ∀ W, Turned (fun _ => False) w2 W → Calls Try.prog 106 #[.pointer (some ⟨bb, 0, none⟩), .int .i64 xv.n, .agg #[.int .i64 t.kind, .int .i64 t.n, .string t.name, .slice t.at_.1 t.args.length t.at_.2], .int .i64 (2000 - (c : Int))] W fun e w' => e = .returned (.tuple #[.bool R.1, .int .i64 R.2]) ∧ Turned (fun _ => False) W w' := by
    intro W hW
    have := has106 (n := xv.n) (most := 2000 - (c : Int)) (h.bo.turned0 (h2.1.trans hW)) (ht.turned0 (h2.1.trans hW)) hsl (by omega) (by omega)
    rw [LT.val_eq, show (2000 - (c : Int)).toNat = 2000 - c from by omega] at this
    unfold hasR at this
    rw [if_pos hg, ← hR] at this
    exact this
  have hkc : ∀ W, Turned (fun _ => False) w2 W → UK p bb K v st c O m l W := fun W hW => h.turned0 (h2.1.trans hW)
  have hm65 := h.bo.most
  have hR2 := Tm.hasL_le (2000 - c) xv.n (Tm.img (bt l) t.bare).flat 0
  rw [← hR] at hR2
  have hR3 := Tm.hasL_most (2000 - c) xv.n (Tm.img (bt l) t.bare).flat 0 (Nat.zero_le _)
  rw [← hR] at hR3
  have hsp := Tm.tieU_spec (left := 2000 - c) h.bo.ok h0 h1 hd hg (by rw [Tm.bare_kind]; exact hk)
  have hT : Tm.tieU (bt l) (2000 - c) xv.n t.bare = if 2000 - c < R.2 then .over else if R.1 = true then .no (2000 - c - R.2) else .ok ((xv.n, t.bare) :: bt l) (2000 - c - R.2) := by unfold Tm.tieU; rw [← hR]
  obtain ⟨U, hU⟩ : ∃ z, z = Tm.tieU (bt l) (2000 - c) xv.n t.bare := ⟨_, rfl⟩
  rw [← hU] at hsp hT ⊢
  clear hU
  rw [LT.val_eq, LT.val_eq]
  have HHAS := Lib.hid hhas
  have HKC := Lib.hid hkc
  have HBX := Lib.hid hbx
  have HW2 := Lib.hid hw2
  have HT2 := Lib.hid h2.1
  have HT := Lib.hid ht
  have HSL := Lib.hid hsl
  have HG := Lib.hid hg
  have HK := Lib.hid hk
  have hvi : I64 xv.n := by unfold I64; omega
  have HS2 := Lib.hid h2.2.1
  have hkl := (Array.getElem?_eq_some_iff.1 h.k).1
  have hKN : K ≠ w.heap.size := by omega
  have hKN1 : K ≠ w.heap.size + 1 := by omega
  have hNK : w.heap.size ≠ K := by omega
  have hNK1 : w.heap.size + 1 ≠ K := by omega
  obtain ⟨r1, r2⟩ := R
  simp only at hR2 hR3 hT
  have HU := Lib.hid hT
  have HSP := Lib.hid hsp
  have HOWN := Lib.hid h.own_lt
  have HUK := Lib.hid h
  clear hR h2 hw2 hhas hkc hbx h ht hsl hg hk hT hsp
  go_enter Try.func183, Try.ntmps183
  go_wp2_with fail
  rw [← HW2.out]
  refine wp_region_ssa' (G := (fun dd vv _ => (match dd with | 11 => vv = .pointer (some ⟨K, 0, none⟩) | 12 => vv = .pointer (some ⟨K, 0, none⟩) | 13 => vv = .pointer (some ⟨K, 0, none⟩) | 14 => vv = .pointer (some ⟨bb, 0, none⟩) | 15 => vv = .pointer (some ⟨w.heap.size, 1, none⟩) | 16 => vv = .int .i64 xv.n | 17 => vv = .agg #[.int .i64 t.kind, .int .i64 t.n, .string t.name, .slice t.at_.1 t.args.length t.at_.2] | 18 => vv = .pointer (some ⟨K, 0, none⟩) | 19 => vv = .pointer (some ⟨K, 0, none⟩) | 20 => vv = .pointer (some ⟨K, 2, none⟩) | 21 => vv = .int .i64 c | 22 => vv = .int .i64 (2000 - (c : Int)) | 23 => vv = .tuple #[.bool r1, .int .i64 r2] | 10 => vv = .tuple #[.bool r1, .int .i64 r2] | 24 => vv = .bool r1 | 25 => vv = .int .i64 r2 | 8 => vv = .bool r1 | 9 => vv = .int .i64 r2 | _ => True : Prop))) [11, 12, 13, 14, 15, 16, 17, 18, 19, 20, 21, 22, 23, 10, 24, 25, 8, 9] (by kernel_rfl) rfl (by kernel_rfl) ?hG ?hs ?hQ
  case hG => exact fun d v _ _ _ h => h
  case hs =>
    refine ⟨?s0, ?s1, ?s2, ?s3, ?s4, ?s5, ?s6, ?s7, ?s8, ?s9, ?s10, ?s11, ?s12, ?s13, ?s14, ?s15, ?s16, ?s17, trivial⟩
    case s0 =>
      refine stepOk_free [] [0] (by kernel_rfl) rfl ?_
      intro ac W hT hI hO
      have h0 : ac.tmps.getD 0 undef = .pointer (some ⟨K, 0, none⟩) := hO 0 (by simp)
      show Brings Try.prog (fun vv w' => Turned (fun _ => False) W w' ∧ vv = .pointer (some ⟨K, 0, none⟩)) _
      simp only [execOp, Act.eval, h0]
      go_simp
      try exact ⟨Turned.refl _ _, rfl⟩
    case s1 =>
      refine stepOk_free [11] [] (by kernel_rfl) rfl ?_
      intro ac W hT hI hO
      have h11 : ac.tmps.getD 11 undef = .pointer (some ⟨K, 0, none⟩) := hI 11 (by simp)
      show Brings Try.prog (fun vv w' => Turned (fun _ => False) W w' ∧ vv = .pointer (some ⟨K, 0, none⟩)) _
      have hnz : W.cell? ⟨K, 0, none⟩ = some (.pointer (some ⟨bb, 0, none⟩)) := (HKC.out W hT).kcells.1
      simp only [execOp, Act.eval, h11]
      go_simp
      try exact ⟨Turned.refl _ _, rfl⟩
    case s2 =>
      refine stepOk_free [12] [] (by kernel_rfl) rfl ?_
      intro ac W hT hI hO
      have h12 : ac.tmps.getD 12 undef = .pointer (some ⟨K, 0, none⟩) := hI 12 (by simp)
      show Brings Try.prog (fun vv w' => Turned (fun _ => False) W w' ∧ vv = .pointer (some ⟨K, 0, none⟩)) _
      simp only [execOp, Act.eval, h12]
      go_simp
      try exact ⟨Turned.refl _ _, rfl⟩
    case s3 =>
      refine stepOk_free [13] [] (by kernel_rfl) rfl ?_
      intro ac W hT hI hO
      have h13 : ac.tmps.getD 13 undef = .pointer (some ⟨K, 0, none⟩) := hI 13 (by simp)
      show Brings Try.prog (fun vv w' => Turned (fun _ => False) W w' ∧ vv = .pointer (some ⟨bb, 0, none⟩)) _
      obtain ⟨k0, k1, k2, kf1, kf2⟩ := (HKC.out W hT).kcells
      simp only [execOp, Act.eval, h13]
      go_simp
      try exact ⟨Turned.refl _ _, rfl⟩
    case s4 =>
      refine stepOk_free [] [4] (by kernel_rfl) rfl ?_
      intro ac W hT hI hO
      have h4 : ac.tmps.getD 4 undef = .pointer (some ⟨w.heap.size, 0, none⟩) := hO 4 (by simp)
      show Brings Try.prog (fun vv w' => Turned (fun _ => False) W w' ∧ vv = .pointer (some ⟨w.heap.size, 1, none⟩)) _
      simp only [execOp, Act.eval, h4]
      go_simp
      try exact ⟨Turned.refl _ _, rfl⟩
    case s5 =>
      refine stepOk_free [15] [] (by kernel_rfl) rfl ?_
      intro ac W hT hI hO
      have h15 : ac.tmps.getD 15 undef = .pointer (some ⟨w.heap.size, 1, none⟩) := hI 15 (by simp)
      show Brings Try.prog (fun vv w' => Turned (fun _ => False) W w' ∧ vv = .int .i64 xv.n) _
      obtain ⟨c0, c1, c2, c3, _⟩ := cells4 (HBX.out W hT).1
      simp only [execOp, Act.eval, h15]
      go_simp
      try exact ⟨Turned.refl _ _, rfl⟩
    case s6 =>
      refine stepOk_free [] [5] (by kernel_rfl) rfl ?_
      intro ac W hT hI hO
      have h5 : ac.tmps.getD 5 undef = .pointer (some ⟨w.heap.size + 1, 0, none⟩) := hO 5 (by simp)
      show Brings Try.prog (fun vv w' => Turned (fun _ => False) W w' ∧ vv = .agg #[.int .i64 t.kind, .int .i64 t.n, .string t.name, .slice t.at_.1 t.args.length t.at_.2]) _
      obtain ⟨c0, c1, c2, c3, _⟩ := cells4 (HBX.out W hT).2
      simp only [execOp, Act.eval, h5]
      go_simp
      try exact ⟨Turned.refl _ _, rfl⟩
    case s7 =>
      refine stepOk_free [] [0] (by kernel_rfl) rfl ?_
      intro ac W hT hI hO
      have h0 : ac.tmps.getD 0 undef = .pointer (some ⟨K, 0, none⟩) := hO 0 (by simp)
      show Brings Try.prog (fun vv w' => Turned (fun _ => False) W w' ∧ vv = .pointer (some ⟨K, 0, none⟩)) _
      simp only [execOp, Act.eval, h0]
      go_simp
      try exact ⟨Turned.refl _ _, rfl⟩
    case s8 =>
      refine stepOk_free [18] [] (by kernel_rfl) rfl ?_
      intro ac W hT hI hO
      have h18 : ac.tmps.getD 18 undef = .pointer (some ⟨K, 0, none⟩) := hI 18 (by simp)
      show Brings Try.prog (fun vv w' => Turned (fun _ => False) W w' ∧ vv = .pointer (some ⟨K, 0, none⟩)) _
      have hnz : W.cell? ⟨K, 0, none⟩ = some (.pointer (some ⟨bb, 0, none⟩)) := (HKC.out W hT).kcells.1
      simp only [execOp, Act.eval, h18]
      go_simp
      try exact ⟨Turned.refl _ _, rfl⟩
    case s9 =>
      refine stepOk_free [19] [] (by kernel_rfl) rfl ?_
      intro ac W hT hI hO
      have h19 : ac.tmps.getD 19 undef = .pointer (some ⟨K, 0, none⟩) := hI 19 (by simp)
      show Brings Try.prog (fun vv w' => Turned (fun _ => False) W w' ∧ vv = .pointer (some ⟨K, 2, none⟩)) _
      simp only [execOp, Act.eval, h19]
      go_simp
      try exact ⟨Turned.refl _ _, rfl⟩
    case s10 =>
      refine stepOk_free [20] [] (by kernel_rfl) rfl ?_
      intro ac W hT hI hO
      have h20 : ac.tmps.getD 20 undef = .pointer (some ⟨K, 2, none⟩) := hI 20 (by simp)
      show Brings Try.prog (fun vv w' => Turned (fun _ => False) W w' ∧ vv = .int .i64 c) _
      obtain ⟨k0, k1, k2, kf1, kf2⟩ := (HKC.out W hT).kcells
      simp only [execOp, Act.eval, h20]
      go_simp
      try exact ⟨Turned.refl _ _, rfl⟩
    case s11 =>
      refine stepOk_free [21] [] (by kernel_rfl) rfl ?_
      intro ac W hT hI hO
      have h21 : ac.tmps.getD 21 undef = .int .i64 c := hI 21 (by simp)
      show Brings Try.prog (fun vv w' => Turned (fun _ => False) W w' ∧ vv = .int .i64 (2000 - (c : Int))) _
      simp only [execOp, Act.eval, h21]
      go_simp
      try rw [wrapI (by omega) (by omega)]
      try exact ⟨Turned.refl _ _, rfl⟩
    case s12 =>
      refine stepOk_free [14, 16, 17, 22] [] (by kernel_rfl) rfl ?_
      intro ac W hT hI hO
      have h14 : ac.tmps.getD 14 undef = .pointer (some ⟨bb, 0, none⟩) := hI 14 (by simp)
      have h16 : ac.tmps.getD 16 undef = .int .i64 xv.n := hI 16 (by simp)
      have h17 : ac.tmps.getD 17 undef = .agg #[.int .i64 t.kind, .int .i64 t.n, .string t.name, .slice t.at_.1 t.args.length t.at_.2] := hI 17 (by simp)
      have h22 : ac.tmps.getD 22 undef = .int .i64 (2000 - (c : Int)) := hI 22 (by simp)
      show Brings Try.prog (fun vv w' => Turned (fun _ => False) W w' ∧ vv = .tuple #[.bool r1, .int .i64 r2]) _
      simp only [execOp, Act.eval, h14, h16, h17, h22]
      go_simp
      show Calls Try.prog 106 _ W _
      (with_reducible refine (HHAS.out W hT).mono ?_)
      rintro e w' ⟨rfl, T'⟩
      exact ⟨_, rfl, T', rfl⟩
    case s13 =>
      refine stepOk_free [23] [] (by kernel_rfl) rfl ?_
      intro ac W hT hI hO
      have h23 : ac.tmps.getD 23 undef = .tuple #[.bool r1, .int .i64 r2] := hI 23 (by simp)
      show Brings Try.prog (fun vv w' => Turned (fun _ => False) W w' ∧ vv = .tuple #[.bool r1, .int .i64 r2]) _
      simp only [execOp, Act.eval, h23]
      go_simp
      try exact ⟨Turned.refl _ _, rfl⟩
    case s14 =>
      refine stepOk_free [10] [] (by kernel_rfl) rfl ?_
      intro ac W hT hI hO
      have h10 : ac.tmps.getD 10 undef = .tuple #[.bool r1, .int .i64 r2] := hI 10 (by simp)
      show Brings Try.prog (fun vv w' => Turned (fun _ => False) W w' ∧ vv = .bool r1) _
      simp only [execOp, Act.eval, h10]
      go_simp
      try exact ⟨Turned.refl _ _, rfl⟩
    case s15 =>
      refine stepOk_free [10] [] (by kernel_rfl) rfl ?_
      intro ac W hT hI hO
      have h10 : ac.tmps.getD 10 undef = .tuple #[.bool r1, .int .i64 r2] := hI 10 (by simp)
      show Brings Try.prog (fun vv w' => Turned (fun _ => False) W w' ∧ vv = .int .i64 r2) _
      simp only [execOp, Act.eval, h10]
      go_simp
      try exact ⟨Turned.refl _ _, rfl⟩
    case s16 =>
      refine stepOk_free [24] [] (by kernel_rfl) rfl ?_
      intro ac W hT hI hO
      have h24 : ac.tmps.getD 24 undef = .bool r1 := hI 24 (by simp)
      show Brings Try.prog (fun vv w' => Turned (fun _ => False) W w' ∧ vv = .bool r1) _
      simp only [execOp, Act.eval, h24]
      go_simp
      try exact ⟨Turned.refl _ _, rfl⟩
    case s17 =>
      refine stepOk_free [25] [] (by kernel_rfl) rfl ?_
      intro ac W hT hI hO
      have h25 : ac.tmps.getD 25 undef = .int .i64 r2 := hI 25 (by simp)
      show Brings Try.prog (fun vv w' => Turned (fun _ => False) W w' ∧ vv = .int .i64 r2) _
      simp only [execOp, Act.eval, h25]
      go_simp
      try exact ⟨Turned.refl _ _, rfl⟩
  case hQ =>
    intro vs w3 T3 hV
    have q8 : vs 8 = .bool r1 := hV 8 (by simp)
    have q9 : vs 9 = .int .i64 r2 := hV 9 (by simp)
    simp only [List.foldl_cons, List.foldl_nil, List.setIfInBounds_toArray, List.set_cons_zero, List.set_cons_succ, q8, q9]
    clear hV q8 q9
    have HK3 := Lib.hid (HKC.out w3 T3)
    obtain ⟨k0, k1, k2, kf1, kf2⟩ := HK3.out.kcells
    have HC3 := Lib.hid (HK3.out.cost ((c : Int) + r2))
    have HT3 := Lib.hid (HT2.out.trans T3)
    have hb3 := HBX.out w3 T3
    have HB3 := Lib.hid hb3
    clear T3 hb3
    by_cases hov : 2000 - c < r2
    · have d1 : decide (2000 < (c : Int) + r2) = true := decide_eq_true (by omega)
      have hu : U = .over := by rw [HU.out, if_pos hov]
      have HUE := Lib.hid hu
      clear hu
      go_wp2_with fail
      go_ret2
      rw [HUE.out]
      exact ⟨rfl, _, UA.same HC3.out.1 ((HT3.out.mono (fun _ _ f => f.elim)).trans (HC3.out.2.mono (fun _ _ e => .inl e)))⟩
    · have d1 : decide (2000 < (c : Int) + r2) = false := decide_eq_false (by omega)
      cases r1 with
      | true =>
        have hu : U = .no (2000 - c - r2) := by rw [HU.out, if_neg hov, if_pos rfl]
        have HUE := Lib.hid hu
        clear hu
        go_wp2_with fail
        go_ret2
        rw [HUE.out]
        refine ⟨rfl, ?_⟩
        rw [show (2000 - ((2000 - c - r2 : Nat) : Int)) = (c : Int) + r2 from by omega]
        exact UA.same HC3.out.1 ((HT3.out.mono (fun _ _ f => f.elim)).trans (HC3.out.2.mono (fun _ _ e => .inl e)))
      | false =>
        have hu : U = .ok ((xv.n, t.bare) :: bt l) (2000 - c - r2) := by rw [HU.out, if_neg hov, if_neg (by simp)]
        have hsp := HSP.out
        rw [hu] at hsp
        have HUE := Lib.hid hu
        have HSE := Lib.hid hsp.2.2
        clear hsp hu
        go_wp2_with fail
        revert HC3
        generalize w3.setCell ⟨K, 2, none⟩ (.int .i64 ((c : Int) + r2)) = w4
        intro HC3
        obtain ⟨k0, k1, k2, kf1, kf2⟩ := HC3.out.1.kcells
        have hb4 : w4.heap[w.heap.size]? = some (.cells #[.int .i64 xv.kind, .int .i64 xv.n, .string xv.name, .slice xv.at_.1 xv.args.length xv.at_.2] 27 (0, 0)) ∧ w4.heap[w.heap.size + 1]? = some (.cells #[.int .i64 t.kind, .int .i64 t.n, .string t.name, .slice t.at_.1 t.args.length t.at_.2] 27 (0, 0)) := ⟨(HC3.out.2.block _ (Array.getElem?_eq_some_iff.1 HB3.out.1).1 (fun e => hNK e)).trans HB3.out.1, (HC3.out.2.block _ (Array.getElem?_eq_some_iff.1 HB3.out.2).1 (fun e => hNK1 e)).trans HB3.out.2⟩
        obtain ⟨c0, c1, c2, c3, _⟩ := cells4 hb4.1
        obtain ⟨e0, e1, e2, e3, _⟩ := cells4 hb4.2
        refine region_tail 7 (by kernel_rfl) (by kernel_rfl) ?_
        simp only [List.take_succ_cons, List.take_zero, List.drop_succ_cons, List.drop_zero]
        repeat still_step
        refine wpStill_nil ?_
        have hti : t.In p w4.drew := (LT.In.turned HC3.out.2 (fun k _ hk e => HUK.out.kO.2 (e ▸ hk)) (fun _ _ hk => hk) _ (HT.out.turned0 HT3.out)).turned0 (Turned.refl _ _).drew
        have HTI := Lib.hid hti
        clear hti hb4
        go_wp2_with (go_at_call 88; have hs88 := setO88 ((HC3.out.1.bo).turned0 (Turned.refl _ _).drew) HTI.out HSL.out xv.n hvi; rw [LT.val_eq, HSE.out, if_pos rfl] at hs88; (with_reducible refine hs88.mono ?_); rintro e w5 ⟨rfl, l2, hl2, A5⟩; have HA5 := Lib.hid A5; have HL2 := Lib.hid hl2; clear A5 hl2 hs88)
        go_ret2
        rw [HUE.out]
        refine ⟨rfl, ?_⟩
        rw [show (2000 - ((2000 - c - r2 : Nat) : Int)) = (c : Int) + r2 from by omega]
        obtain ⟨O', u1, u2, u3⟩ := (HC3.out.1.turned0 (Turned.refl _ _).drew).after HA5.out
        have hsz : w.heap.size ≤ w4.heap.size := by have := HT3.out.size; have := HC3.out.2.size; omega
        refine ⟨l2, O', HL2.out, u1, fun k hk hl => u2 k hk (Nat.lt_of_lt_of_le hl hsz), ?_⟩
        exact (((HT3.out.mono (fun _ _ f => f.elim)).trans (HC3.out.2.mono (fun _ _ e => .inl e))).trans ((Turned.refl _ w4).drew)).trans (u3.mono (fun _ _ e => .inr (.inr e)))
end
end Go.Proofs.Ytoihjobdfjajfaa
namespace Go.Proofs.Ytoihjobdfjajfaa
open Go.RowKit Go.Maps
set_option linter.unusedVariables false
set_option linter.unusedSimpArgs false
def WkS (p : Nat → Prop) (X0 Y0 : Tm Unit) (N : Nat) (w2 : World) : List Value → World → Prop
  | [], W => Turned (fun _ => False) w2 W
  | [a], W => Turned (fun _ => False) w2 W ∧ ∃ X : LT, a = .agg #[.int .i64 X.kind, .int .i64 X.n, .string X.name, .slice X.at_.1 X.args.length X.at_.2] ∧ X.In p W ∧ X.bare = X0
  | [a, b], W => Turned (fun _ => False) w2 W ∧ (∃ X : LT, a = .agg #[.int .i64 X.kind, .int .i64 X.n, .string X.name, .slice X.at_.1 X.args.length X.at_.2] ∧ X.In p W ∧ X.bare = X0) ∧ ∃ Y : LT, b = .agg #[.int .i64 Y.kind, .int .i64 Y.n, .string Y.name, .slice Y.at_.1 Y.args.length Y.at_.2] ∧ Y.In p W ∧ Y.bare = Y0
  | [_, b, _], W => Turned (fun k => k = N) w2 W ∧ (∃ X : LT, W.heap[N]? = some (.cells #[.int .i64 X.kind, .int .i64 X.n, .string X.name, .slice X.at_.1 X.args.length X.at_.2] 27 (0, 0)) ∧ X.In p W ∧ X.bare = X0) ∧ ∃ Y : LT, b = .agg #[.int .i64 Y.kind, .int .i64 Y.n, .string Y.name, .slice Y.at_.1 Y.args.length Y.at_.2] ∧ Y.In p W ∧ Y.bare = Y0
  | [_, _, _, _], W => Turned (fun k => k = N ∨ k = N + 1) w2 W ∧ (∃ X : LT, W.heap[N]? = some (.cells #[.int .i64 X.kind, .int .i64 X.n, .string X.name, .slice X.at_.1 X.args.length X.at_.2] 27 (0, 0)) ∧ X.In p W ∧ X.bare = X0) ∧ ∃ Y : LT, W.heap[N + 1]? = some (.cells #[.int .i64 Y.kind, .int .i64 Y.n, .string Y.name, .slice Y.at_.1 Y.args.length Y.at_.2] 27 (0, 0)) ∧ Y.In p W ∧ Y.bare = Y0
  | _, _ => False
section
variable {p : Nat → Prop} {X0 Y0 : Tm Unit} {N : Nat} {w2 W W' : World}
theorem WkS.turned0 : ∀ (hs : List Value) (w w' : World), WkS p X0 Y0 N w2 hs w → Turned (fun _ => False) w w' → WkS p X0 Y0 N w2 hs w'
  | [], _, _, h, T => Turned.trans h T
  | [_], _, _, h, T => by obtain ⟨h1, X, x1, x2, x3⟩ := h; exact ⟨h1.trans T, X, x1, x2.turned0 T, x3⟩
  | [_, _], _, _, h, T => by obtain ⟨h1, ⟨X, x1, x2, x3⟩, Y, y1, y2, y3⟩ := h; exact ⟨h1.trans T, ⟨X, x1, x2.turned0 T, x3⟩, Y, y1, y2.turned0 T, y3⟩
  | [_, _, _], _, _, h, T => by obtain ⟨h1, ⟨X, x1, x2, x3⟩, Y, y1, y2, y3⟩ := h; exact ⟨h1.trans (T.mono (fun _ _ f => f.elim)), ⟨X, (T.block _ (Array.getElem?_eq_some_iff.1 x1).1 (fun f => f)).trans x1, x2.turned0 T, x3⟩, Y, y1, y2.turned0 T, y3⟩
  | [_, _, _, _], _, _, h, T => by obtain ⟨h1, ⟨X, x1, x2, x3⟩, Y, y1, y2, y3⟩ := h; exact ⟨h1.trans (T.mono (fun _ _ f => f.elim)), ⟨X, (T.block _ (Array.getElem?_eq_some_iff.1 x1).1 (fun f => f)).trans x1, x2.turned0 T, x3⟩, Y, (T.block _ (Array.getElem?_eq_some_iff.1 y1).1 (fun f => f)).trans y1, y2.turned0 T, y3⟩
  | _ :: _ :: _ :: _ :: _ :: _, _, _, h, _ => h.elim
theorem WkS.turned : ∀ (hs : List Value) (W : World), WkS p X0 Y0 N w2 hs W → Turned (fun k => k = N ∨ k = N + 1) w2 W
  | [], _, h => Turned.mono h (fun _ _ f => f.elim)
  | [_], _, h => h.1.mono (fun _ _ f => f.elim)
  | [_, _], _, h => h.1.mono (fun _ _ f => f.elim)
  | [_, _, _], _, h => h.1.mono (fun _ _ e => .inl e)
  | [_, _, _, _], _, h => h.1
  | _ :: _ :: _ :: _ :: _ :: _, _, h => h.elim
theorem WkS.early : ∀ (hs : List Value) (W : World), hs.length ≤ 2 → WkS p X0 Y0 N w2 hs W → Turned (fun _ => False) w2 W
  | [], _, _, h => h
  | [_], _, _, h => h.1
  | [_, _], _, _, h => h.1
theorem WkS.store1 {a b q : Value} {X : LT} (h : WkS p X0 Y0 N w2 [a, b] W) (hX : a = .agg #[.int .i64 X.kind, .int .i64 X.n, .string X.name, .slice X.at_.1 X.args.length X.at_.2]) (hXi : X.In p W) (hXb : X.bare = X0) (hN : ∃ a0 b0 c0 d0, W.heap[N]? = some (.cells #[a0, b0, c0, d0] 27 (0, 0))) (hp : ¬ p N) :
    WkS p X0 Y0 N w2 [a, b, q] ((((W.setCell ⟨N, 0, none⟩ (.int .i64 X.kind)).setCell ⟨N, 1, none⟩ (.int .i64 X.n)).setCell ⟨N, 2, none⟩ (.string X.name)).setCell ⟨N, 3, none⟩ (.slice X.at_.1 X.args.length X.at_.2)) := by
  obtain ⟨h1, _, Y, y1, y2, y3⟩ := h
  obtain ⟨a0, b0, c0, d0, hN⟩ := hN
  have T := turned_store4 W N (.int .i64 X.kind) (.int .i64 X.n) (.string X.name) (.slice X.at_.1 X.args.length X.at_.2)
  have hs := set4 (a' := .int .i64 X.kind) (b' := .int .i64 X.n) (c' := .string X.name) (d' := .slice X.at_.1 X.args.length X.at_.2) hN
  exact ⟨(h1.mono (fun _ _ f => f.elim)).trans T, ⟨X, hs, LT.In.turned T (fun k _ hk e => hp (e ▸ hk)) (fun _ _ hk => hk) _ hXi, hXb⟩, Y, y1, LT.In.turned T (fun k _ hk e => hp (e ▸ hk)) (fun _ _ hk => hk) _ y2, y3⟩
theorem WkS.store2 {a b c q : Value} {Y : LT} (h : WkS p X0 Y0 N w2 [a, b, c] W) (hYi : Y.In p W) (hYb : Y.bare = Y0) (hN : ∃ a0 b0 c0 d0, W.heap[N + 1]? = some (.cells #[a0, b0, c0, d0] 27 (0, 0))) (hp : ¬ p (N + 1)) :
    WkS p X0 Y0 N w2 [a, b, c, q] ((((W.setCell ⟨N + 1, 0, none⟩ (.int .i64 Y.kind)).setCell ⟨N + 1, 1, none⟩ (.int .i64 Y.n)).setCell ⟨N + 1, 2, none⟩ (.string Y.name)).setCell ⟨N + 1, 3, none⟩ (.slice Y.at_.1 Y.args.length Y.at_.2)) := by
  obtain ⟨h1, ⟨X, x1, x2, x3⟩, _⟩ := h
  obtain ⟨a0, b0, c0, d0, hN⟩ := hN
  have T := turned_store4 W (N + 1) (.int .i64 Y.kind) (.int .i64 Y.n) (.string Y.name) (.slice Y.at_.1 Y.args.length Y.at_.2)
  have hs := set4 (a' := .int .i64 Y.kind) (b' := .int .i64 Y.n) (c' := .string Y.name) (d' := .slice Y.at_.1 Y.args.length Y.at_.2) hN
  exact ⟨(h1.mono (fun _ _ e => .inl e)).trans (T.mono (fun _ _ e => .inr e)), ⟨X, (T.block N (Array.getElem?_eq_some_iff.1 x1).1 (by omega)).trans x1, LT.In.turned T (fun k _ hk e => hp (e ▸ hk)) (fun _ _ hk => hk) _ x2, x3⟩, Y, hs, LT.In.turned T (fun k _ hk e => hp (e ▸ hk)) (fun _ _ hk => hk) _ hYi, hYb⟩
end
theorem info187 : (Try.prog.info? 187).map (fun i => (i.zero, i.size, i.bytes)) = some (some (.agg #[.int .i64 0, .int .i64 0, .string ByteArray.empty, .slice none 0 0, .int .i64 0, .int .i64 0, .string ByteArray.empty, .slice none 0 0]), 8, 112) := by kernel_rfl
theorem brings_build187 {o : Oper} {a : Act} {w : World} {F : Value → World → Prop} (x y : Tmp) (ho : o.op = Op.build 187 #[(0, .tmp x), (1, .tmp y)]) {a0 a1 a2 a3 b0 b1 b2 b3 : Value} (hx : a.tmps.getD x undef = .agg #[a0, a1, a2, a3]) (hy : a.tmps.getD y undef = .agg #[b0, b1, b2, b3])
    (h : F (.agg #[a0, a1, a2, a3, b0, b1, b2, b3]) w) : Brings Try.prog F ((execOp a.eval o).run Try.prog w) := by
  have e : ∀ q, a.eval (.tmp q) = a.tmps.getD q undef := fun _ => rfl
  unfold execOp
  simp only [ho, List.map_toArray, List.map_cons, List.map_nil, e, hx, hy]
  go_simp
  exact h
theorem brings_slice188 {o : Oper} {a : Act} {w : World} {F : Value → World → Prop} (x : Tmp) (ho : o.op = Op.buildSlice 188 1 #[(0, .tmp x)]) {a0 a1 a2 a3 b0 b1 b2 b3 : Value} (hx : a.tmps.getD x undef = .agg #[a0, a1, a2, a3, b0, b1, b2, b3])
    (h : F (.slice (some ⟨w.heap.size, 0, none⟩) 1 1) (w.alloc (.cells #[a0, a1, a2, a3, b0, b1, b2, b3] 187))) : Brings Try.prog F ((execOp a.eval o).run Try.prog w) := by
  have hx' : a.tmps[x]?.getD undef = .agg #[a0, a1, a2, a3, b0, b1, b2, b3] := by rw [← Array.getD_eq_getD_getElem?]; exact hx
  simp only [execOp, ho, Act.eval]
  go_simp
  exact h
section
variable {l : Tm.Trail} {left : Nat} {X Y : LT}
theorem oneU_same (hx : X.kind = 0) (hy : Y.kind = 0) (hn : X.n = Y.n) : Tm.oneU l left X.bare Y.bare = .done (.ok l left) := by
  unfold Tm.oneU; rw [if_pos (by rw [Tm.bare_kind]; exact hx), if_pos (by rw [Tm.bare_kind]; exact hy), if_pos (by rw [Tm.bare_n, Tm.bare_n]; exact hn)]
theorem oneU_vars (hx : X.kind = 0) (hy : Y.kind = 0) (hn : ¬ X.n = Y.n) : Tm.oneU l left X.bare Y.bare = .done (.ok ((max X.n Y.n, Tm.V (min X.n Y.n)) :: l) left) := by
  unfold Tm.oneU; rw [if_pos (by rw [Tm.bare_kind]; exact hx), if_pos (by rw [Tm.bare_kind]; exact hy), if_neg (by rw [Tm.bare_n, Tm.bare_n]; exact hn), Tm.bare_n, Tm.bare_n]
theorem oneU_left (hx : X.kind = 0) (hy : ¬ Y.kind = 0) : Tm.oneU l left X.bare Y.bare = .done (Tm.tieU l left X.n Y.bare) := by
  unfold Tm.oneU; rw [if_pos (by rw [Tm.bare_kind]; exact hx), if_neg (by rw [Tm.bare_kind]; exact hy), Tm.bare_n]
theorem oneU_right (hx : ¬ X.kind = 0) (hy : Y.kind = 0) : Tm.oneU l left X.bare Y.bare = .done (Tm.tieU l left Y.n X.bare) := by
  unfold Tm.oneU; rw [if_neg (by rw [Tm.bare_kind]; exact hx), if_pos (by rw [Tm.bare_kind]; exact hy), Tm.bare_n]
theorem oneU_heads (hx : ¬ X.kind = 0) (hy : ¬ Y.kind = 0) : Tm.oneU l left X.bare Y.bare = if X.kind = Y.kind ∧ X.n = Y.n ∧ X.name = Y.name ∧ X.args.length = Y.args.length then .more (X.bare.args.zip Y.bare.args) else .done (.no left) := by
  unfold Tm.oneU
  rw [if_neg (by rw [Tm.bare_kind]; exact hx), if_neg (by rw [Tm.bare_kind]; exact hy)]
  have h := Tm.headsB_iff (x := X.bare) (y := Y.bare)
  rw [Tm.bare_kind, Tm.bare_kind, Tm.bare_n, Tm.bare_n, Tm.bare_name, Tm.bare_name, Tm.bare_arity, Tm.bare_arity] at h
  by_cases hh : Tm.headsB X.bare Y.bare = true
  · rw [if_pos hh, if_pos (h.1 hh)]
  · rw [if_neg hh, if_neg (fun c => hh (h.2 c))]
theorem setE_vars {m : Nat} {l : Tm.Trail} {n k : Int} (hl : Tm.okT m l) (hm : m ≤ 65536) (n0 : 0 ≤ n) (n1 : n < (m : Int)) (k0 : 0 ≤ k) (k1 : k < (m : Int)) (hn : n ∉ Tm.dom l) (hk : k ∉ Tm.dom l) (hne : ¬ n = k) : Tm.setE m l n (Tm.V k) = 0 := by
  unfold Tm.setE
  rw [if_pos ⟨n0, n1, Tm.ownB_V k0 k1 hm⟩, if_neg hn, if_neg]
  rw [Tm.img_V, Tm.sig_free hl hk, Tm.vars_mem, Tm.numsIn_V]
  exact hne
end
theorem UA.from {p O : Nat → Prop} {bb K m : Nat} {v : Value} {st : List PT} {c : Int} {l' : Tm.Trail} {w w3 w' : World} (T : Turned (fun _ => False) w w3) (h : UA p bb K v st c O m l' w3 w') : UA p bb K v st c O m l' w w' := by
  obtain ⟨l2, O', h1, h2, h3, h4⟩ := h
  exact ⟨l2, O', h1, h2, fun k hk hl => h3 k hk (Nat.lt_of_lt_of_le hl T.size), (T.mono (fun _ _ f => f.elim)).trans h4⟩
theorem After.from0 {p O : Nat → Prop} {bb m : Nat} {l : TL} {w w3 w' : World} (h : After p bb O m l w3 w') (T : Turned (fun _ => False) w w3) : After p bb O m l w w' := by
  obtain ⟨O', h1, h2, h3⟩ := h
  exact ⟨O', h1, fun k hk hl => h2 k hk (Nat.lt_of_lt_of_le hl T.size), (T.mono (fun _ _ f => f.elim)).trans h3⟩
theorem setVar {p O : Nat → Prop} {bb m : Nat} {l : TL} {w : World} {n k : Int} (h : BO p bb O m l w) (hn : I64 n) (hk : I64 k) (hE : Tm.setE m (bt l) n (Tm.V k) = 0) :
    Calls Try.prog 88 #[.pointer (some ⟨bb, 0, none⟩), .int .i64 n, .agg #[.int .i64 0, .int .i64 k, .string ByteArray.empty, .slice none 0 0]] w fun e w' => e = .returned (.int .i64 0) ∧ ∃ l', bt l' = (n, Tm.V k) :: bt l ∧ After p bb O m l' w w' := by
  have := setO88 h (t := leaf 0 k ByteArray.empty) (var_in hk) (leaf_slim _ _ _) n hn
  have e : (leaf 0 k ByteArray.empty).bare = Tm.V k := rfl
  rw [e, hE, if_pos rfl] at this
  exact this
def VarS (p : Nat → Prop) (bb : Nat) (O : Nat → Prop) (m : Nat) (l : TL) (n k : Int) (w3 : World) : List Value → World → Prop
  | [], W => Turned (fun _ => False) w3 W
  | [a], W => Turned (fun _ => False) w3 W ∧ a = .agg #[.int .i64 0, .int .i64 k, .string ByteArray.empty, .slice none 0 0]
  | [_, b], W => b = .int .i64 0 ∧ ∃ l', bt l' = (n, Tm.V k) :: bt l ∧ After p bb O m l' w3 W
  | _, _ => False
section
variable {p O : Nat → Prop} {bb m : Nat} {l : TL} {n k : Int} {w3 : World}
theorem VarS.turned0 : ∀ (hs : List Value) (w w' : World), VarS p bb O m l n k w3 hs w → Turned (fun _ => False) w w' → VarS p bb O m l n k w3 hs w'
  | [], _, _, h, T => Turned.trans h T
  | [_], _, _, h, T => ⟨h.1.trans T, h.2⟩
  | [_, _], _, _, ⟨h1, l', h2, h3⟩, T => ⟨h1, l', h2, h3.turned0 T⟩
  | _ :: _ :: _ :: _, _, _, h, _ => h.elim
theorem VarS.turned : ∀ (hs : List Value) (W : World), hs.length ≤ 1 → VarS p bb O m l n k w3 hs W → Turned (fun _ => False) w3 W
  | [], _, _, h => h
  | [_], _, _, h => h.1
theorem VarS.val : ∀ (hs : List Value) (W : World) {x : Value}, VarS p bb O m l n k w3 hs W → hs[1]? = some x → x = .int .i64 0
  | [], _, _, _, e => by simp at e
  | [_], _, _, _, e => by simp at e
  | [_, _], _, _, h, e => by simp at e; rw [← e]; exact h.1
  | _ :: _ :: _ :: _, _, _, h, _ => h.elim
end
def PsS (bb K : Nat) (v : Value) (n : Nat) (xs : List Value) (c : Int) (X Y : LT) (wr : World) : List Value → World → Prop
  | [], W => Turned (fun _ => False) wr W
  | [s], W => Turned (fun _ => False) wr W ∧ ∃ g0, s = .slice (some ⟨g0, 0, none⟩) 1 1 ∧ W.heap[g0]? = some (.cells #[.int .i64 X.kind, .int .i64 X.n, .string X.name, .slice X.at_.1 X.args.length X.at_.2, .int .i64 Y.kind, .int .i64 Y.n, .string Y.name, .slice Y.at_.1 Y.args.length Y.at_.2] 187 (0, 0))
  | [_, a], W => Row W 187 8 a (n + 1) (xs ++ PT.cells (X, Y)) ∧ (a.ownBlock = v.ownBlock ∨ ∀ g, a.ownBlock = some g → wr.heap.size ≤ g) ∧ Turned (fun k => v.ownBlock = some k) wr W
  | [_, a, _], W => Row W 187 8 a (n + 1) (xs ++ PT.cells (X, Y)) ∧ (a.ownBlock = v.ownBlock ∨ ∀ g, a.ownBlock = some g → wr.heap.size ≤ g) ∧ Turned (fun k => k = K ∨ v.ownBlock = some k) wr W ∧ W.heap[K]? = some (.cells #[.pointer (some ⟨bb, 0, none⟩), a, .int .i64 c] 190 (0, 0))
  | _, _ => False
section
variable {bb K n : Nat} {v : Value} {xs : List Value} {c : Int} {X Y : LT} {wr W W' : World}
theorem PsS.turned0 : ∀ (hs : List Value) (w w' : World), PsS bb K v n xs c X Y wr hs w → Turned (fun _ => False) w w' → PsS bb K v n xs c X Y wr hs w'
  | [], _, _, h, T => Turned.trans h T
  | [_], _, _, ⟨h1, g0, h2, h3⟩, T => ⟨h1.trans T, g0, h2, (T.block _ (Array.getElem?_eq_some_iff.1 h3).1 (fun f => f)).trans h3⟩
  | [_, _], _, _, ⟨h1, h2, h3⟩, T => ⟨h1.turned0 T, h2, h3.trans (T.mono (fun _ _ f => f.elim))⟩
  | [_, _, _], _, _, ⟨h1, h2, h3, h4⟩, T => ⟨h1.turned0 T, h2, h3.trans (T.mono (fun _ _ f => f.elim)), (T.block _ (Array.getElem?_eq_some_iff.1 h4).1 (fun f => f)).trans h4⟩
  | _ :: _ :: _ :: _ :: _, _, _, h, _ => h.elim
theorem PsS.turned : ∀ (hs : List Value) (W : World), hs.length ≤ 2 → PsS bb K v n xs c X Y wr hs W → Turned (fun k => v.ownBlock = some k) wr W
  | [], _, _, h => Turned.mono h (fun _ _ f => f.elim)
  | [_], _, _, h => h.1.mono (fun _ _ f => f.elim)
  | [_, _], _, _, h => h.2.2
end
theorem UK.push {p O : Nat → Prop} {bb K m : Nat} {v a : Value} {st : List PT} {c : Int} {l : TL} {wr W : World} {X Y : LT} (h : UK p bb K v st c O m l wr) (hX : X.In p wr ∧ Tm.ownB m X.bare = true) (hY : Y.In p wr ∧ Tm.ownB m Y.bare = true) (hr : Row W 187 8 a (st.length + 1) (st.flatMap PT.cells ++ PT.cells (X, Y))) (ho : a.ownBlock = v.ownBlock ∨ ∀ g, a.ownBlock = some g → wr.heap.size ≤ g) (T : Turned (fun k => k = K ∨ v.ownBlock = some k) wr W) (hk : W.heap[K]? = some (.cells #[.pointer (some ⟨bb, 0, none⟩), a, .int .i64 c] 190 (0, 0))) :
    UK p bb K a (st ++ [(X, Y)]) c O m l W := by
  have hS : ∀ k, k < wr.heap.size → (k = K ∨ v.ownBlock = some k) → ¬ O k ∧ ¬ p k := fun k _ e => by
    rcases e with e | e
    · rw [e]; exact h.kO
    · exact ⟨(h.vO k e).1, (h.vO k e).2.1⟩
  have hp : ∀ q : LT, q.In p wr → q.In p W := fun q hq => LT.In.turned T (fun k hl hk e => (hS k hl e).2 hk) (fun _ _ hk => hk) q hq
  refine ⟨h.bo.turned T hS, hk, by simpa using hr, fun q hq => ?_, h.kO, fun g hg => ?_⟩
  · rcases List.mem_append.1 hq with hq | hq
    · exact ⟨⟨hp _ (h.mem q hq).1.1, (h.mem q hq).1.2⟩, hp _ (h.mem q hq).2.1, (h.mem q hq).2.2⟩
    · rw [List.mem_singleton] at hq
      rw [hq]
      exact ⟨⟨hp _ hX.1, hX.2⟩, hp _ hY.1, hY.2⟩
  · rcases ho with e | e
    · exact h.vO g (e ▸ hg)
    · have h1 := e g hg
      exact ⟨fun c => by have := h.bo.lt g c; omega, fun c => by have := h.bo.plt g c; omega, fun c => by have := (Array.getElem?_eq_some_iff.1 h.k).1; omega⟩
def OneL (p : Nat → Prop) (bb K : Nat) (v : Value) (st : List PT) (c : Nat) (O : Nat → Prop) (m : Nat) (l : TL) (X Y : LT) (N : Nat) (w3 : World) (q : Nat) (i : Value) (wr : World) : Prop :=
  Hid (q ≤ X.args.length) ∧ i = .int .i64 ((q : Int) - 1) ∧ ∃ v', Hid (UK p bb K v' (st ++ ((X.args.zip Y.args).drop q).reverse) c O m l wr) ∧ Hid (v'.ownBlock = v.ownBlock ∨ ∀ g, v'.ownBlock = some g → w3.heap.size ≤ g) ∧ wr.heap[N]? = some (.cells #[.int .i64 X.kind, .int .i64 X.n, .string X.name, .slice X.at_.1 X.args.length X.at_.2] 27 (0, 0)) ∧ wr.heap[N + 1]? = some (.cells #[.int .i64 Y.kind, .int .i64 Y.n, .string Y.name, .slice Y.at_.1 Y.args.length Y.at_.2] 27 (0, 0)) ∧ Hid (X.In p wr ∧ Y.In p wr) ∧ Hid (Turned (ownU K v O) w3 wr)
def OQ (p : Nat → Prop) (bb K : Nat) (v : Value) (st : List PT) (c : Nat) (O : Nat → Prop) (m : Nat) (l : TL) (w : World) : Tm.UStep → Ending → World → Prop
  | .done r, e, w' => ∃ v', v' = v ∧ UQ p bb K v' st O m l w r e w'
  | .more ps, e, w' => e = .returned (.tuple #[.bool true, .int .i64 0]) ∧ ∃ (v' : Value) (qs : List PT), UK p bb K v' (st ++ qs.reverse) c O m l w' ∧ qs.map (fun q => (q.1.bare, q.2.bare)) = ps ∧ (v'.ownBlock = v.ownBlock ∨ ∀ g, v'.ownBlock = some g → w.heap.size ≤ g) ∧ Turned (ownU K v O) w w'
section
variable {p O : Nat → Prop} {bb K m : Nat} {v : Value} {st : List PT} {c : Nat} {l : TL} {w w' : World}
set_option maxRecDepth 100000 in
set_option maxHeartbeats 12800000 in
theorem one173 {x y : LT} (h : UK p bb K v st c O m l w) (hc : c ≤ 2000) (hsl : st.length ≤ 20000) (hx : x.In p w) (gx : Tm.ownB m x.bare = true) (hy : y.In p w) (gy : Tm.ownB m y.bare = true) :
    Calls Try.prog 173 #[.pointer (some ⟨K, 0, none⟩), x.val, y.val] w (OQ p bb K v st c O m l w (Tm.oneU (bt l) (2000 - c) (Tm.walkT (bt l) x.bare) (Tm.walkT (bt l) y.bare))) := by
  have h2 := twoBox w (.cells #[.int .i64 x.kind, .int .i64 x.n, .string x.name, .slice x.at_.1 x.args.length x.at_.2] 27) (.cells #[.int .i64 y.kind, .int .i64 y.n, .string y.name, .slice y.at_.1 y.args.length y.at_.2] 27)
  obtain ⟨w2, hw2⟩ : ∃ z, z = (w.alloc (.cells #[.int .i64 x.kind, .int .i64 x.n, .string x.name, .slice x.at_.1 x.args.length x.at_.2] 27)).alloc (.cells #[.int .i64 y.kind, .int .i64 y.n, .string y.name, .slice y.at_.1 y.args.length y.at_.2] 27) := ⟨_, rfl⟩
  rw [← hw2] at h2
  have hbx : ∀ W, Turned (fun _ => False) w2 W → W.heap[w.heap.size]? = some (.cells #[.int .i64 x.kind, .int .i64 x.n, .string x.name, .slice x.at_.1 x.args.length x.at_.2] 27 (0, 0)) ∧ W.heap[w.heap.size + 1]? = some (.cells #[.int .i64 y.kind, .int .i64 y.n, .string y.name, .slice y.at_.1 y.args.length y.at_.2] 27 (0, 0)) := fun W hW => ⟨(hW.block _ (by have := h2.2.1; omega) (fun f => f)).trans h2.2.2.1, (hW.block _ (by have := h2.2.1; omega) (fun f => f)).trans h2.2.2.2⟩
  have hkc : ∀ W, Turned (fun k => k = w.heap.size ∨ k = w.heap.size + 1) w2 W → UK p bb K v st c O m l W := fun W hW => h.turned0 (h2.1.step hW (fun i hi e => by omega))
  have hwx : ∀ W, Turned (fun _ => False) w2 W → Calls Try.prog 90 #[.pointer (some ⟨bb, 0, none⟩), x.val] W fun e w' => ∃ X : LT, e = .returned X.val ∧ X.In p w' ∧ X.bare = Tm.walkT (bt l) x.bare ∧ Turned (fun _ => False) W w' := fun W hW => walkO90 (h.bo.turned0 (h2.1.trans hW)) (hx.turned0 (h2.1.trans hW)) (Tm.good_ones' (Tm.ownB_iff.1 gx).1)
  have hwy : ∀ W, Turned (fun _ => False) w2 W → Calls Try.prog 90 #[.pointer (some ⟨bb, 0, none⟩), y.val] W fun e w' => ∃ X : LT, e = .returned X.val ∧ X.In p w' ∧ X.bare = Tm.walkT (bt l) y.bare ∧ Turned (fun _ => False) W w' := fun W hW => walkO90 (h.bo.turned0 (h2.1.trans hW)) (hy.turned0 (h2.1.trans hW)) (Tm.good_ones' (Tm.ownB_iff.1 gy).1)
  have wdx := Tm.walked h.bo.ok _ x.bare (Nat.le_refl _) (Tm.good_ones' (Tm.ownB_iff.1 gx).1)
  have wdy := Tm.walked h.bo.ok _ y.bare (Nat.le_refl _) (Tm.good_ones' (Tm.ownB_iff.1 gy).1)
  have owx := Tm.walkT_own h.bo.ok _ x.bare (Nat.le_refl _) gx
  have owy := Tm.walkT_own h.bo.ok _ y.bare (Nat.le_refl _) gy
  obtain ⟨X0, hX0⟩ : ∃ z, z = Tm.walkT (bt l) x.bare := ⟨_, rfl⟩
  obtain ⟨Y0, hY0⟩ : ∃ z, z = Tm.walkT (bt l) y.bare := ⟨_, rfl⟩
  rw [← hX0] at hwx wdx owx ⊢
  rw [← hY0] at hwy wdy owy ⊢
  obtain ⟨U, hU⟩ : ∃ z, z = Tm.oneU (bt l) (2000 - c) X0 Y0 := ⟨_, rfl⟩
  rw [← hU]
  rw [LT.val_eq] at hwx hwy ⊢
  rw [LT.val_eq y]
  have HU := Lib.hid hU
  have HWX := Lib.hid hwx
  have HWY := Lib.hid hwy
  have WDX := Lib.hid wdx
  have WDY := Lib.hid wdy
  have OWX := Lib.hid owx
  have OWY := Lib.hid owy
  have HKC := Lib.hid hkc
  have HBX := Lib.hid hbx
  have HW2 := Lib.hid hw2
  have HT2 := Lib.hid h2.1
  have HS2 := Lib.hid h2.2.1
  have hkl := (Array.getElem?_eq_some_iff.1 h.k).1
  have hKN : K ≠ w.heap.size := by omega
  have hKN1 : K ≠ w.heap.size + 1 := by omega
  have hNK : w.heap.size ≠ K := by omega
  have hNK1 : w.heap.size + 1 ≠ K := by omega
  have HUK := Lib.hid h
  have HPN : Hid (¬ p w.heap.size ∧ ¬ p (w.heap.size + 1)) := ⟨fun e => Nat.lt_irrefl _ (h.bo.plt _ e), fun e => by have := h.bo.plt _ e; omega⟩
  clear hU hX0 hY0 hwx hwy wdx wdy owx owy hkc hbx hw2 h2 hx hy gx gy h
  go_enter Try.func173, Try.ntmps173
  go_wp2_with fail
  rw [← HW2.out]
  refine wp_region_hsW [9, 10, 11, 12, 13, 14, 15, 16, 17, 18, 19, 20] [5, 11, 12, 13] [0, 0, 0, 0, 0, 1, 1, 1, 1, 1, 1, 2, 3, 4] [14, 20, 100012, 100013] (fun dd vv => (match dd with | 9 => vv = .pointer (some ⟨K, 0, none⟩) | 10 => vv = .pointer (some ⟨K, 0, none⟩) | 11 => vv = .pointer (some ⟨K, 0, none⟩) | 12 => vv = .pointer (some ⟨bb, 0, none⟩) | 13 => vv = .agg #[.int .i64 x.kind, .int .i64 x.n, .string x.name, .slice x.at_.1 x.args.length x.at_.2] | 15 => vv = .pointer (some ⟨K, 0, none⟩) | 16 => vv = .pointer (some ⟨K, 0, none⟩) | 17 => vv = .pointer (some ⟨K, 0, none⟩) | 18 => vv = .pointer (some ⟨bb, 0, none⟩) | 19 => vv = .agg #[.int .i64 y.kind, .int .i64 y.n, .string y.name, .slice y.at_.1 y.args.length y.at_.2] | _ => True : Prop)) (WkS p X0 Y0 w.heap.size w2) (by kernel_rfl) rfl (by kernel_rfl) (by kernel_rfl) (by kernel_rfl) (by kernel_rfl) (fun w h => h) (fun hs w w' h T => WkS.turned0 hs w w' h T) ?hs ?hQ
  case hs =>
    refine ⟨?s0, ?s1, ?s2, ?s3, ?s4, ?s5, ?s6, ?s7, ?s8, ?s9, ?s10, ?s11, ?s12, ?s13, trivial⟩
    case s0 =>
      refine fun hs hle => stepG_free [] [0] (by kernel_rfl) rfl ?_
      intro ac W hT hI hO
      have hle : hs.length ≤ 0 := hle
      have h0 : ac.tmps.getD 0 undef = .pointer (some ⟨K, 0, none⟩) := hO 0 (by simp)
      show Brings Try.prog (fun vv w' => Turned (fun _ => False) W w' ∧ vv = .pointer (some ⟨K, 0, none⟩)) _
      simp only [execOp, Act.eval, h0]
      go_simp
      try exact ⟨Turned.refl _ _, rfl⟩
    case s1 =>
      refine fun hs hle => stepG_free [9] [] (by kernel_rfl) rfl ?_
      intro ac W hT hI hO
      have hle : hs.length ≤ 0 := hle
      have h9 : ac.tmps.getD 9 undef = .pointer (some ⟨K, 0, none⟩) := hI 9 (by simp)
      show Brings Try.prog (fun vv w' => Turned (fun _ => False) W w' ∧ vv = .pointer (some ⟨K, 0, none⟩)) _
      obtain ⟨k0, k1, k2, kf1, kf2⟩ := (HKC.out W (WkS.turned hs W hT)).kcells
      simp only [execOp, Act.eval, h9]
      go_simp
      try exact ⟨Turned.refl _ _, rfl⟩
    case s2 =>
      refine fun hs hle => stepG_free [10] [] (by kernel_rfl) rfl ?_
      intro ac W hT hI hO
      have hle : hs.length ≤ 0 := hle
      have h10 : ac.tmps.getD 10 undef = .pointer (some ⟨K, 0, none⟩) := hI 10 (by simp)
      show Brings Try.prog (fun vv w' => Turned (fun _ => False) W w' ∧ vv = .pointer (some ⟨K, 0, none⟩)) _
      simp only [execOp, Act.eval, h10]
      go_simp
      try exact ⟨Turned.refl _ _, rfl⟩
    case s3 =>
      refine fun hs hle => stepG_free [11] [] (by kernel_rfl) rfl ?_
      intro ac W hT hI hO
      have hle : hs.length ≤ 0 := hle
      have h11 : ac.tmps.getD 11 undef = .pointer (some ⟨K, 0, none⟩) := hI 11 (by simp)
      show Brings Try.prog (fun vv w' => Turned (fun _ => False) W w' ∧ vv = .pointer (some ⟨bb, 0, none⟩)) _
      obtain ⟨k0, k1, k2, kf1, kf2⟩ := (HKC.out W (WkS.turned hs W hT)).kcells
      simp only [execOp, Act.eval, h11]
      go_simp
      try exact ⟨Turned.refl _ _, rfl⟩
    case s4 =>
      refine fun hs hle => stepG_free [] [4] (by kernel_rfl) rfl ?_
      intro ac W hT hI hO
      have hle : hs.length ≤ 0 := hle
      have h4 : ac.tmps.getD 4 undef = .pointer (some ⟨w.heap.size, 0, none⟩) := hO 4 (by simp)
      show Brings Try.prog (fun vv w' => Turned (fun _ => False) W w' ∧ vv = .agg #[.int .i64 x.kind, .int .i64 x.n, .string x.name, .slice x.at_.1 x.args.length x.at_.2]) _
      obtain ⟨c0, c1, c2, c3, _⟩ := cells4 (HBX.out W (WkS.early hs W (by omega) hT)).1
      simp only [execOp, Act.eval, h4]
      go_simp
      try exact ⟨Turned.refl _ _, rfl⟩
    case s5 =>
      refine fun hs hlen => stepG_free [12, 13] [] (by kernel_rfl) rfl ?_
      intro ac W hT hI hO
      have h12 : ac.tmps.getD 12 undef = .pointer (some ⟨bb, 0, none⟩) := hI 12 (by simp)
      have h13 : ac.tmps.getD 13 undef = .agg #[.int .i64 x.kind, .int .i64 x.n, .string x.name, .slice x.at_.1 x.args.length x.at_.2] := hI 13 (by simp)
      obtain rfl : hs = [] := List.eq_nil_of_length_eq_zero hlen
      replace hT : Turned (fun _ => False) w2 W := hT
      show Brings Try.prog (fun vv w' => WkS p X0 Y0 w.heap.size w2 [vv] w') _
      simp only [execOp, Act.eval, h12, h13]
      go_simp
      show Calls Try.prog 90 _ W _
      (with_reducible refine (HWX.out W hT).mono ?_)
      rintro e w' ⟨X, rfl, g1, g2, T'⟩
      exact ⟨_, rfl, hT.trans T', X, by rw [LT.val_eq], g1, g2⟩
    case s6 =>
      refine fun hs hle => stepG_free [] [0] (by kernel_rfl) rfl ?_
      intro ac W hT hI hO
      have hle : hs.length ≤ 1 := hle
      have h0 : ac.tmps.getD 0 undef = .pointer (some ⟨K, 0, none⟩) := hO 0 (by simp)
      show Brings Try.prog (fun vv w' => Turned (fun _ => False) W w' ∧ vv = .pointer (some ⟨K, 0, none⟩)) _
      simp only [execOp, Act.eval, h0]
      go_simp
      try exact ⟨Turned.refl _ _, rfl⟩
    case s7 =>
      refine fun hs hle => stepG_free [15] [] (by kernel_rfl) rfl ?_
      intro ac W hT hI hO
      have hle : hs.length ≤ 1 := hle
      have h15 : ac.tmps.getD 15 undef = .pointer (some ⟨K, 0, none⟩) := hI 15 (by simp)
      show Brings Try.prog (fun vv w' => Turned (fun _ => False) W w' ∧ vv = .pointer (some ⟨K, 0, none⟩)) _
      obtain ⟨k0, k1, k2, kf1, kf2⟩ := (HKC.out W (WkS.turned hs W hT)).kcells
      simp only [execOp, Act.eval, h15]
      go_simp
      try exact ⟨Turned.refl _ _, rfl⟩
    case s8 =>
      refine fun hs hle => stepG_free [16] [] (by kernel_rfl) rfl ?_
      intro ac W hT hI hO
      have hle : hs.length ≤ 1 := hle
      have h16 : ac.tmps.getD 16 undef = .pointer (some ⟨K, 0, none⟩) := hI 16 (by simp)
      show Brings Try.prog (fun vv w' => Turned (fun _ => False) W w' ∧ vv = .pointer (some ⟨K, 0, none⟩)) _
      simp only [execOp, Act.eval, h16]
      go_simp
      try exact ⟨Turned.refl _ _, rfl⟩
    case s9 =>
      refine fun hs hle => stepG_free [17] [] (by kernel_rfl) rfl ?_
      intro ac W hT hI hO
      have hle : hs.length ≤ 1 := hle
      have h17 : ac.tmps.getD 17 undef = .pointer (some ⟨K, 0, none⟩) := hI 17 (by simp)
      show Brings Try.prog (fun vv w' => Turned (fun _ => False) W w' ∧ vv = .pointer (some ⟨bb, 0, none⟩)) _
      obtain ⟨k0, k1, k2, kf1, kf2⟩ := (HKC.out W (WkS.turned hs W hT)).kcells
      simp only [execOp, Act.eval, h17]
      go_simp
      try exact ⟨Turned.refl _ _, rfl⟩
    case s10 =>
      refine fun hs hle => stepG_free [] [5] (by kernel_rfl) rfl ?_
      intro ac W hT hI hO
      have hle : hs.length ≤ 1 := hle
      have h5 : ac.tmps.getD 5 undef = .pointer (some ⟨w.heap.size + 1, 0, none⟩) := hO 5 (by simp)
      show Brings Try.prog (fun vv w' => Turned (fun _ => False) W w' ∧ vv = .agg #[.int .i64 y.kind, .int .i64 y.n, .string y.name, .slice y.at_.1 y.args.length y.at_.2]) _
      obtain ⟨c0, c1, c2, c3, _⟩ := cells4 (HBX.out W (WkS.early hs W (by omega) hT)).2
      simp only [execOp, Act.eval, h5]
      go_simp
      try exact ⟨Turned.refl _ _, rfl⟩
    case s11 =>
      refine fun hs hlen => stepG_free [18, 19] [] (by kernel_rfl) rfl ?_
      intro ac W hT hI hO
      have h18 : ac.tmps.getD 18 undef = .pointer (some ⟨bb, 0, none⟩) := hI 18 (by simp)
      have h19 : ac.tmps.getD 19 undef = .agg #[.int .i64 y.kind, .int .i64 y.n, .string y.name, .slice y.at_.1 y.args.length y.at_.2] := hI 19 (by simp)
      obtain ⟨a, rfl⟩ := List.length_eq_one_iff.1 hlen
      obtain ⟨hT1, X, x1, x2, x3⟩ := hT
      show Brings Try.prog (fun vv w' => WkS p X0 Y0 w.heap.size w2 [a, vv] w') _
      simp only [execOp, Act.eval, h18, h19]
      go_simp
      show Calls Try.prog 90 _ W _
      (with_reducible refine (HWY.out W hT1).mono ?_)
      rintro e w' ⟨Y, rfl, g1, g2, T'⟩
      exact ⟨_, rfl, hT1.trans T', ⟨X, by first | rfl | exact x1, x2.turned0 T', x3⟩, Y, by rw [LT.val_eq], g1, g2⟩
    case s12 =>
      refine fun hs hlen => stepG_free [14] [4] (by kernel_rfl) rfl ?_
      intro ac W hT hI hO
      have h14 : hs[0]? = some (ac.tmps.getD 14 undef) := hI 14 (by simp)
      have h4 : ac.tmps.getD 4 undef = .pointer (some ⟨w.heap.size, 0, none⟩) := hO 4 (by simp)
      obtain ⟨a, b, rfl⟩ := list2' hlen
      have e14 : a = ac.tmps.getD 14 undef := by simpa using h14
      have hbW := (HBX.out W hT.1).1
      obtain ⟨c0, c1, c2, c3, f0, f1, f2, f3⟩ := cells4 hbW
      obtain ⟨X, x1, x2, x3⟩ := hT.2.1
      have HST := Lib.hid (fun q => WkS.store1 (q := q) hT x1 x2 x3 ⟨_, _, _, _, hbW⟩ HPN.out.1)
      show Brings Try.prog (fun vv w' => WkS p X0 Y0 w.heap.size w2 [a, b, vv] w') _
      rw [e14] at x1
      simp only [execOp, Act.eval, h4, x1]
      clear hbW hT x2 x3 e14 x1
      go_simp
      exact HST.out undef
    case s13 =>
      refine fun hs hlen => stepG_free [20] [5] (by kernel_rfl) rfl ?_
      intro ac W hT hI hO
      have h20 : hs[1]? = some (ac.tmps.getD 20 undef) := hI 20 (by simp)
      have h5 : ac.tmps.getD 5 undef = .pointer (some ⟨w.heap.size + 1, 0, none⟩) := hO 5 (by simp)
      obtain ⟨a, b, cc, rfl⟩ := list3' hlen
      have e20 : b = ac.tmps.getD 20 undef := by simpa using h20
      have hbW : W.heap[w.heap.size + 1]? = some (.cells #[.int .i64 y.kind, .int .i64 y.n, .string y.name, .slice y.at_.1 y.args.length y.at_.2] 27 (0, 0)) := (hT.1.block _ (by have := HS2.out; omega) (by omega)).trans (HBX.out w2 (Turned.refl _ _)).2
      obtain ⟨c0, c1, c2, c3, f0, f1, f2, f3⟩ := cells4 hbW
      obtain ⟨Y, y1, y2, y3⟩ := hT.2.2
      have HST := Lib.hid (fun q => WkS.store2 (q := q) hT y2 y3 ⟨_, _, _, _, hbW⟩ HPN.out.2)
      show Brings Try.prog (fun vv w' => WkS p X0 Y0 w.heap.size w2 [a, b, cc, vv] w') _
      rw [e20] at y1
      simp only [execOp, Act.eval, h5, y1]
      clear hbW hT y2 y3 e20 y1
      go_simp
      exact HST.out undef
  case hQ =>
    intro hs vs w3 hlen hR hV
    simp only [List.foldl_cons, List.foldl_nil, List.setIfInBounds_toArray, List.set_cons_zero, List.set_cons_succ]
    obtain ⟨e1, e2, e3, e4, rfl⟩ := list4' hlen
    obtain ⟨T3, ⟨X, hbx, hxi, rfl⟩, Y, hby, hyi, rfl⟩ := hR
    have HT3 := Lib.hid (HT2.out.step T3 (fun i hi e => by omega))
    have HK3 := Lib.hid (HKC.out w3 T3)
    have HXB := Lib.hid hbx
    have HYB := Lib.hid hby
    have HXI := Lib.hid hxi
    have HYI := Lib.hid hyi
    obtain ⟨c0, c1, c2, c3, f0, f1, f2, f3⟩ := cells4 hbx
    obtain ⟨d0, d1, d2, d3, g0, g1, g2, g3⟩ := cells4 hby
    clear T3 hbx hby hxi hyi hlen hV
    obtain ⟨k0, k1, k2, kf1, kf2⟩ := HK3.out.kcells
    have hok := HK3.out.bo.ok
    have hm65 := HK3.out.bo.most
    by_cases hxk : X.kind = 0
    · have vX := Tm.ownB_var OWX.out (by rw [Tm.bare_kind]; exact hxk)
      have fX := WDX.out.free (by rw [Tm.bare_kind]; exact hxk)
      rw [Tm.bare_n] at vX fX
      have bx : (X.kind == 0) = true := by simp [hxk]
      by_cases hyk : Y.kind = 0
      · have vY := Tm.ownB_var OWY.out (by rw [Tm.bare_kind]; exact hyk)
        have fY := WDY.out.free (by rw [Tm.bare_kind]; exact hyk)
        rw [Tm.bare_n] at vY fY
        have by_ : (Y.kind == 0) = true := by simp [hyk]
        by_cases hn : X.n = Y.n
        · have bn : (X.n == Y.n) = true := by simp [hn]
          have HE := Lib.hid (HU.out.trans (oneU_same hxk hyk hn))
          clear hxk hyk hn vX vY fX fY hok
          go_wp2_with fail
          go_ret2
          rw [HE.out]
          refine ⟨v, rfl, rfl, ?_⟩
          rw [show (2000 - ((2000 - c : Nat) : Int)) = (c : Int) from by omega]
          exact UA.same HK3.out (HT3.out.mono (fun _ _ f => f.elim))
        · have bn : (X.n == Y.n) = false := by simp [hn]
          have HE := Lib.hid (HU.out.trans (oneU_vars hxk hyk hn))
          by_cases hlt : X.n < Y.n
          · rw [Int.max_eq_right (by omega), Int.min_eq_left (by omega)] at HE
            have HSE := Lib.hid (setE_vars hok hm65 vY.1 vY.2.1 vX.1 vX.2.1 fY fX (fun e => hn e.symm))
            have hnlt : ¬ Y.n < X.n := by omega
            have hb0 : 0 ≤ X.n ∧ X.n < 65536 ∧ 0 ≤ Y.n ∧ Y.n < 65536 := by omega
            clear hxk hyk hn vX vY fX fY hok
            go_wp2_with fail
            refine wp_region_hsW [35, 36, 37, 38, 39, 40, 41, 42, 43, 44, 45, 46, 47, 48, 49, 50, 6, 7] [14, 15] [1, 1, 1, 1, 1, 1, 1, 1, 1, 0, 0, 0, 0, 0, 1, 2, 2, 2] [49, 50] (fun dd vv => (match dd with | 35 => vv = .pointer (some ⟨K, 0, none⟩) | 36 => vv = .pointer (some ⟨K, 0, none⟩) | 37 => vv = .pointer (some ⟨K, 0, none⟩) | 38 => vv = .pointer (some ⟨bb, 0, none⟩) | 39 => vv = .pointer (some ⟨w.heap.size, 1, none⟩) | 40 => vv = .int .i64 X.n | 41 => vv = .pointer (some ⟨w.heap.size + 1, 1, none⟩) | 42 => vv = .int .i64 Y.n | 43 => vv = .int .i64 Y.n | 44 => vv = .pointer (some ⟨w.heap.size, 1, none⟩) | 45 => vv = .int .i64 X.n | 46 => vv = .pointer (some ⟨w.heap.size + 1, 1, none⟩) | 47 => vv = .int .i64 Y.n | 48 => vv = .int .i64 X.n | 6 => vv = .bool true | 7 => vv = .int .i64 0 | _ => True : Prop)) (VarS p bb O m l Y.n X.n w3) (by kernel_rfl) rfl (by kernel_rfl) (by kernel_rfl) (by kernel_rfl) (by kernel_rfl) (fun w h => h) (fun hs w w' h T => VarS.turned0 hs w w' h T) ?hs ?hQ
            case hs =>
              refine ⟨?s0, ?s1, ?s2, ?s3, ?s4, ?s5, ?s6, ?s7, ?s8, ?s9, ?s10, ?s11, ?s12, ?s13, ?s14, ?s15, ?s16, ?s17, trivial⟩
              case s0 =>
                refine fun hs hle => stepG_free [] [0] (by kernel_rfl) rfl ?_
                intro ac W hT hI hO
                have hle : hs.length ≤ 1 := hle
                have h0 : ac.tmps.getD 0 undef = .pointer (some ⟨K, 0, none⟩) := hO 0 (by simp)
                show Brings Try.prog (fun vv w' => Turned (fun _ => False) W w' ∧ vv = .pointer (some ⟨K, 0, none⟩)) _
                simp only [execOp, Act.eval, h0]
                go_simp
                try exact ⟨Turned.refl _ _, rfl⟩
              case s1 =>
                refine fun hs hle => stepG_free [35] [] (by kernel_rfl) rfl ?_
                intro ac W hT hI hO
                have hle : hs.length ≤ 1 := hle
                have h35 : ac.tmps.getD 35 undef = .pointer (some ⟨K, 0, none⟩) := hI 35 (by simp)
                show Brings Try.prog (fun vv w' => Turned (fun _ => False) W w' ∧ vv = .pointer (some ⟨K, 0, none⟩)) _
                obtain ⟨k0, k1, k2, kf1, kf2⟩ := (HK3.out.turned0 (VarS.turned hs W hle hT)).kcells
                simp only [execOp, Act.eval, h35]
                go_simp
                try exact ⟨Turned.refl _ _, rfl⟩
              case s2 =>
                refine fun hs hle => stepG_free [36] [] (by kernel_rfl) rfl ?_
                intro ac W hT hI hO
                have hle : hs.length ≤ 1 := hle
                have h36 : ac.tmps.getD 36 undef = .pointer (some ⟨K, 0, none⟩) := hI 36 (by simp)
                show Brings Try.prog (fun vv w' => Turned (fun _ => False) W w' ∧ vv = .pointer (some ⟨K, 0, none⟩)) _
                simp only [execOp, Act.eval, h36]
                go_simp
                try exact ⟨Turned.refl _ _, rfl⟩
              case s3 =>
                refine fun hs hle => stepG_free [37] [] (by kernel_rfl) rfl ?_
                intro ac W hT hI hO
                have hle : hs.length ≤ 1 := hle
                have h37 : ac.tmps.getD 37 undef = .pointer (some ⟨K, 0, none⟩) := hI 37 (by simp)
                show Brings Try.prog (fun vv w' => Turned (fun _ => False) W w' ∧ vv = .pointer (some ⟨bb, 0, none⟩)) _
                obtain ⟨k0, k1, k2, kf1, kf2⟩ := (HK3.out.turned0 (VarS.turned hs W hle hT)).kcells
                simp only [execOp, Act.eval, h37]
                go_simp
                try exact ⟨Turned.refl _ _, rfl⟩
              case s4 =>
                refine fun hs hle => stepG_free [] [4] (by kernel_rfl) rfl ?_
                intro ac W hT hI hO
                have hle : hs.length ≤ 1 := hle
                have h4 : ac.tmps.getD 4 undef = .pointer (some ⟨w.heap.size, 0, none⟩) := hO 4 (by simp)
                show Brings Try.prog (fun vv w' => Turned (fun _ => False) W w' ∧ vv = .pointer (some ⟨w.heap.size, 1, none⟩)) _
                simp only [execOp, Act.eval, h4]
                go_simp
                try exact ⟨Turned.refl _ _, rfl⟩
              case s5 =>
                refine fun hs hle => stepG_free [39] [] (by kernel_rfl) rfl ?_
                intro ac W hT hI hO
                have hle : hs.length ≤ 1 := hle
                have h39 : ac.tmps.getD 39 undef = .pointer (some ⟨w.heap.size, 1, none⟩) := hI 39 (by simp)
                show Brings Try.prog (fun vv w' => Turned (fun _ => False) W w' ∧ vv = .int .i64 X.n) _
                obtain ⟨c0, c1, c2, c3, _⟩ := cells4 (((VarS.turned hs W (by omega) hT).block _ (Array.getElem?_eq_some_iff.1 HXB.out).1 (fun f => f)).trans HXB.out)
                simp only [execOp, Act.eval, h39]
                go_simp
                try exact ⟨Turned.refl _ _, rfl⟩
              case s6 =>
                refine fun hs hle => stepG_free [] [5] (by kernel_rfl) rfl ?_
                intro ac W hT hI hO
                have hle : hs.length ≤ 1 := hle
                have h5 : ac.tmps.getD 5 undef = .pointer (some ⟨w.heap.size + 1, 0, none⟩) := hO 5 (by simp)
                show Brings Try.prog (fun vv w' => Turned (fun _ => False) W w' ∧ vv = .pointer (some ⟨w.heap.size + 1, 1, none⟩)) _
                simp only [execOp, Act.eval, h5]
                go_simp
                try exact ⟨Turned.refl _ _, rfl⟩
              case s7 =>
                refine fun hs hle => stepG_free [41] [] (by kernel_rfl) rfl ?_
                intro ac W hT hI hO
                have hle : hs.length ≤ 1 := hle
                have h41 : ac.tmps.getD 41 undef = .pointer (some ⟨w.heap.size + 1, 1, none⟩) := hI 41 (by simp)
                show Brings Try.prog (fun vv w' => Turned (fun _ => False) W w' ∧ vv = .int .i64 Y.n) _
                obtain ⟨c0, c1, c2, c3, _⟩ := cells4 (((VarS.turned hs W (by omega) hT).block _ (Array.getElem?_eq_some_iff.1 HYB.out).1 (fun f => f)).trans HYB.out)
                simp only [execOp, Act.eval, h41]
                go_simp
                try exact ⟨Turned.refl _ _, rfl⟩
              case s8 =>
                refine fun hs hle => stepG_free [40, 42] [] (by kernel_rfl) rfl ?_
                intro ac W hT hI hO
                have hle : hs.length ≤ 1 := hle
                have h40 : ac.tmps.getD 40 undef = .int .i64 X.n := hI 40 (by simp)
                have h42 : ac.tmps.getD 42 undef = .int .i64 Y.n := hI 42 (by simp)
                show Brings Try.prog (fun vv w' => Turned (fun _ => False) W w' ∧ vv = .int .i64 Y.n) _
                simp only [execOp, Act.eval, h40, h42]
                go_simp
                try rw [if_pos (by omega)]
                try rw [if_neg (by omega)]
                try exact ⟨Turned.refl _ _, rfl⟩
              case s9 =>
                refine fun hs hle => stepG_free [] [4] (by kernel_rfl) rfl ?_
                intro ac W hT hI hO
                have hle : hs.length ≤ 0 := hle
                have h4 : ac.tmps.getD 4 undef = .pointer (some ⟨w.heap.size, 0, none⟩) := hO 4 (by simp)
                show Brings Try.prog (fun vv w' => Turned (fun _ => False) W w' ∧ vv = .pointer (some ⟨w.heap.size, 1, none⟩)) _
                simp only [execOp, Act.eval, h4]
                go_simp
                try exact ⟨Turned.refl _ _, rfl⟩
              case s10 =>
                refine fun hs hle => stepG_free [44] [] (by kernel_rfl) rfl ?_
                intro ac W hT hI hO
                have hle : hs.length ≤ 0 := hle
                have h44 : ac.tmps.getD 44 undef = .pointer (some ⟨w.heap.size, 1, none⟩) := hI 44 (by simp)
                show Brings Try.prog (fun vv w' => Turned (fun _ => False) W w' ∧ vv = .int .i64 X.n) _
                obtain ⟨c0, c1, c2, c3, _⟩ := cells4 (((VarS.turned hs W (by omega) hT).block _ (Array.getElem?_eq_some_iff.1 HXB.out).1 (fun f => f)).trans HXB.out)
                simp only [execOp, Act.eval, h44]
                go_simp
                try exact ⟨Turned.refl _ _, rfl⟩
              case s11 =>
                refine fun hs hle => stepG_free [] [5] (by kernel_rfl) rfl ?_
                intro ac W hT hI hO
                have hle : hs.length ≤ 0 := hle
                have h5 : ac.tmps.getD 5 undef = .pointer (some ⟨w.heap.size + 1, 0, none⟩) := hO 5 (by simp)
                show Brings Try.prog (fun vv w' => Turned (fun _ => False) W w' ∧ vv = .pointer (some ⟨w.heap.size + 1, 1, none⟩)) _
                simp only [execOp, Act.eval, h5]
                go_simp
                try exact ⟨Turned.refl _ _, rfl⟩
              case s12 =>
                refine fun hs hle => stepG_free [46] [] (by kernel_rfl) rfl ?_
                intro ac W hT hI hO
                have hle : hs.length ≤ 0 := hle
                have h46 : ac.tmps.getD 46 undef = .pointer (some ⟨w.heap.size + 1, 1, none⟩) := hI 46 (by simp)
                show Brings Try.prog (fun vv w' => Turned (fun _ => False) W w' ∧ vv = .int .i64 Y.n) _
                obtain ⟨c0, c1, c2, c3, _⟩ := cells4 (((VarS.turned hs W (by omega) hT).block _ (Array.getElem?_eq_some_iff.1 HYB.out).1 (fun f => f)).trans HYB.out)
                simp only [execOp, Act.eval, h46]
                go_simp
                try exact ⟨Turned.refl _ _, rfl⟩
              case s13 =>
                refine fun hs hle => stepG_free [45, 47] [] (by kernel_rfl) rfl ?_
                intro ac W hT hI hO
                have hle : hs.length ≤ 0 := hle
                have h45 : ac.tmps.getD 45 undef = .int .i64 X.n := hI 45 (by simp)
                have h47 : ac.tmps.getD 47 undef = .int .i64 Y.n := hI 47 (by simp)
                show Brings Try.prog (fun vv w' => Turned (fun _ => False) W w' ∧ vv = .int .i64 X.n) _
                simp only [execOp, Act.eval, h45, h47]
                go_simp
                try rw [if_pos (by omega)]
                try rw [if_neg (by omega)]
                try exact ⟨Turned.refl _ _, rfl⟩
              case s14 =>
                refine fun hs hlen => stepG_free [48] [] (by kernel_rfl) rfl ?_
                intro ac W hT hI hO
                have h48 : ac.tmps.getD 48 undef = .int .i64 X.n := hI 48 (by simp)
                obtain rfl : hs = [] := List.eq_nil_of_length_eq_zero hlen
                replace hT : Turned (fun _ => False) w3 W := hT
                show Brings Try.prog (fun vv w' => VarS p bb O m l Y.n X.n w3 [vv] w') _
                simp only [execOp, Act.eval, h48]
                go_simp
                show Calls Try.prog 62 _ W _
                (with_reducible refine (varE X.n (by unfold I64; omega) W).mono ?_)
                rintro e w' ⟨rfl, T'⟩
                exact ⟨_, rfl, hT.trans T', rfl⟩
              case s15 =>
                refine fun hs hlen => stepG_free [38, 43, 49] [] (by kernel_rfl) rfl ?_
                intro ac W hT hI hO
                have h38 : ac.tmps.getD 38 undef = .pointer (some ⟨bb, 0, none⟩) := hI 38 (by simp)
                have h43 : ac.tmps.getD 43 undef = .int .i64 Y.n := hI 43 (by simp)
                have h49 : hs[0]? = some (ac.tmps.getD 49 undef) := hI 49 (by simp)
                obtain ⟨a, rfl⟩ := List.length_eq_one_iff.1 hlen
                obtain ⟨hT1, ha⟩ := hT
                have e49 : a = ac.tmps.getD 49 undef := by simpa using h49
                rw [e49] at ha
                show Brings Try.prog (fun vv w' => VarS p bb O m l Y.n X.n w3 [a, vv] w') _
                have HS88 := Lib.hid (setVar (HK3.out.bo.turned0 hT1) (n := Y.n) (k := X.n) (by unfold I64; omega) (by unfold I64; omega) HSE.out)
                simp only [execOp, Act.eval, h38, h43, ha]
                go_simp
                show Calls Try.prog 88 _ W _
                (with_reducible refine HS88.out.mono ?_)
                rintro e w' ⟨rfl, l2, hl2, A⟩
                exact ⟨_, rfl, rfl, l2, hl2, A.from0 hT1⟩
              case s16 =>
                refine fun hs hle => stepG_free [] [] (by kernel_rfl) rfl ?_
                intro ac W hT hI hO
                have hle : hs.length ≤ 2 := hle
                show Brings Try.prog (fun vv w' => Turned (fun _ => False) W w' ∧ vv = .bool true) _
                simp only [execOp, Act.eval]
                go_simp
                try exact ⟨Turned.refl _ _, rfl⟩
              case s17 =>
                refine fun hs hle => stepG_free [50] [] (by kernel_rfl) rfl ?_
                intro ac W hT hI hO
                have hle : hs.length ≤ 2 := hle
                have h50 : hs[1]? = some (ac.tmps.getD 50 undef) := hI 50 (by simp)
                show Brings Try.prog (fun vv w' => Turned (fun _ => False) W w' ∧ vv = .int .i64 0) _
                have e50 := VarS.val hs W hT h50
                simp only [execOp, Act.eval, e50]
                go_simp
                try exact ⟨Turned.refl _ _, rfl⟩
            case hQ =>
              intro hs5 vs5 w5 hlen hR hV
              have q6 : vs5 6 = .bool true := hV 6 (by simp)
              have q7 : vs5 7 = .int .i64 0 := hV 7 (by simp)
              simp only [List.foldl_cons, List.foldl_nil, List.setIfInBounds_toArray, List.set_cons_zero, List.set_cons_succ, q6, q7]
              obtain ⟨e1, e2, rfl⟩ := list2' hlen
              obtain ⟨_, l2, hl2, A5⟩ := hR
              have HA5 := Lib.hid A5
              have HL2 := Lib.hid hl2
              clear A5 hl2 hlen hV q6 q7
              go_wp2_with fail
              go_ret2
              rw [HE.out]
              refine ⟨v, rfl, rfl, ?_⟩
              rw [show (2000 - ((2000 - c : Nat) : Int)) = (c : Int) from by omega]
              obtain ⟨O', u1, u2, u3⟩ := HK3.out.after HA5.out
              exact UA.from HT3.out ⟨l2, O', HL2.out, u1, u2, u3.mono (fun _ _ e => .inr (.inr e))⟩
          · rw [Int.max_eq_left (by omega), Int.min_eq_right (by omega)] at HE
            have HSE := Lib.hid (setE_vars hok hm65 vX.1 vX.2.1 vY.1 vY.2.1 fX fY hn)
            have hgt : Y.n < X.n := by omega
            have hb0 : 0 ≤ X.n ∧ X.n < 65536 ∧ 0 ≤ Y.n ∧ Y.n < 65536 := by omega
            clear hxk hyk hn vX vY fX fY hok
            go_wp2_with fail
            refine wp_region_hsW [35, 36, 37, 38, 39, 40, 41, 42, 43, 44, 45, 46, 47, 48, 49, 50, 6, 7] [14, 15] [1, 1, 1, 1, 1, 1, 1, 1, 1, 0, 0, 0, 0, 0, 1, 2, 2, 2] [49, 50] (fun dd vv => (match dd with | 35 => vv = .pointer (some ⟨K, 0, none⟩) | 36 => vv = .pointer (some ⟨K, 0, none⟩) | 37 => vv = .pointer (some ⟨K, 0, none⟩) | 38 => vv = .pointer (some ⟨bb, 0, none⟩) | 39 => vv = .pointer (some ⟨w.heap.size, 1, none⟩) | 40 => vv = .int .i64 X.n | 41 => vv = .pointer (some ⟨w.heap.size + 1, 1, none⟩) | 42 => vv = .int .i64 Y.n | 43 => vv = .int .i64 X.n | 44 => vv = .pointer (some ⟨w.heap.size, 1, none⟩) | 45 => vv = .int .i64 X.n | 46 => vv = .pointer (some ⟨w.heap.size + 1, 1, none⟩) | 47 => vv = .int .i64 Y.n | 48 => vv = .int .i64 Y.n | 6 => vv = .bool true | 7 => vv = .int .i64 0 | _ => True : Prop)) (VarS p bb O m l X.n Y.n w3) (by kernel_rfl) rfl (by kernel_rfl) (by kernel_rfl) (by kernel_rfl) (by kernel_rfl) (fun w h => h) (fun hs w w' h T => VarS.turned0 hs w w' h T) ?hs ?hQ
            case hs =>
              refine ⟨?s0, ?s1, ?s2, ?s3, ?s4, ?s5, ?s6, ?s7, ?s8, ?s9, ?s10, ?s11, ?s12, ?s13, ?s14, ?s15, ?s16, ?s17, trivial⟩
              case s0 =>
                refine fun hs hle => stepG_free [] [0] (by kernel_rfl) rfl ?_
                intro ac W hT hI hO
                have hle : hs.length ≤ 1 := hle
                have h0 : ac.tmps.getD 0 undef = .pointer (some ⟨K, 0, none⟩) := hO 0 (by simp)
                show Brings Try.prog (fun vv w' => Turned (fun _ => False) W w' ∧ vv = .pointer (some ⟨K, 0, none⟩)) _
                simp only [execOp, Act.eval, h0]
                go_simp
                try exact ⟨Turned.refl _ _, rfl⟩
              case s1 =>
                refine fun hs hle => stepG_free [35] [] (by kernel_rfl) rfl ?_
                intro ac W hT hI hO
                have hle : hs.length ≤ 1 := hle
                have h35 : ac.tmps.getD 35 undef = .pointer (some ⟨K, 0, none⟩) := hI 35 (by simp)
                show Brings Try.prog (fun vv w' => Turned (fun _ => False) W w' ∧ vv = .pointer (some ⟨K, 0, none⟩)) _
                obtain ⟨k0, k1, k2, kf1, kf2⟩ := (HK3.out.turned0 (VarS.turned hs W hle hT)).kcells
                simp only [execOp, Act.eval, h35]
                go_simp
                try exact ⟨Turned.refl _ _, rfl⟩
              case s2 =>
                refine fun hs hle => stepG_free [36] [] (by kernel_rfl) rfl ?_
                intro ac W hT hI hO
                have hle : hs.length ≤ 1 := hle
                have h36 : ac.tmps.getD 36 undef = .pointer (some ⟨K, 0, none⟩) := hI 36 (by simp)
                show Brings Try.prog (fun vv w' => Turned (fun _ => False) W w' ∧ vv = .pointer (some ⟨K, 0, none⟩)) _
                simp only [execOp, Act.eval, h36]
                go_simp
                try exact ⟨Turned.refl _ _, rfl⟩
              case s3 =>
                refine fun hs hle => stepG_free [37] [] (by kernel_rfl) rfl ?_
                intro ac W hT hI hO
                have hle : hs.length ≤ 1 := hle
                have h37 : ac.tmps.getD 37 undef = .pointer (some ⟨K, 0, none⟩) := hI 37 (by simp)
                show Brings Try.prog (fun vv w' => Turned (fun _ => False) W w' ∧ vv = .pointer (some ⟨bb, 0, none⟩)) _
                obtain ⟨k0, k1, k2, kf1, kf2⟩ := (HK3.out.turned0 (VarS.turned hs W hle hT)).kcells
                simp only [execOp, Act.eval, h37]
                go_simp
                try exact ⟨Turned.refl _ _, rfl⟩
              case s4 =>
                refine fun hs hle => stepG_free [] [4] (by kernel_rfl) rfl ?_
                intro ac W hT hI hO
                have hle : hs.length ≤ 1 := hle
                have h4 : ac.tmps.getD 4 undef = .pointer (some ⟨w.heap.size, 0, none⟩) := hO 4 (by simp)
                show Brings Try.prog (fun vv w' => Turned (fun _ => False) W w' ∧ vv = .pointer (some ⟨w.heap.size, 1, none⟩)) _
                simp only [execOp, Act.eval, h4]
                go_simp
                try exact ⟨Turned.refl _ _, rfl⟩
              case s5 =>
                refine fun hs hle => stepG_free [39] [] (by kernel_rfl) rfl ?_
                intro ac W hT hI hO
                have hle : hs.length ≤ 1 := hle
                have h39 : ac.tmps.getD 39 undef = .pointer (some ⟨w.heap.size, 1, none⟩) := hI 39 (by simp)
                show Brings Try.prog (fun vv w' => Turned (fun _ => False) W w' ∧ vv = .int .i64 X.n) _
                obtain ⟨c0, c1, c2, c3, _⟩ := cells4 (((VarS.turned hs W (by omega) hT).block _ (Array.getElem?_eq_some_iff.1 HXB.out).1 (fun f => f)).trans HXB.out)
                simp only [execOp, Act.eval, h39]
                go_simp
                try exact ⟨Turned.refl _ _, rfl⟩
              case s6 =>
                refine fun hs hle => stepG_free [] [5] (by kernel_rfl) rfl ?_
                intro ac W hT hI hO
                have hle : hs.length ≤ 1 := hle
                have h5 : ac.tmps.getD 5 undef = .pointer (some ⟨w.heap.size + 1, 0, none⟩) := hO 5 (by simp)
                show Brings Try.prog (fun vv w' => Turned (fun _ => False) W w' ∧ vv = .pointer (some ⟨w.heap.size + 1, 1, none⟩)) _
                simp only [execOp, Act.eval, h5]
                go_simp
                try exact ⟨Turned.refl _ _, rfl⟩
              case s7 =>
                refine fun hs hle => stepG_free [41] [] (by kernel_rfl) rfl ?_
                intro ac W hT hI hO
                have hle : hs.length ≤ 1 := hle
                have h41 : ac.tmps.getD 41 undef = .pointer (some ⟨w.heap.size + 1, 1, none⟩) := hI 41 (by simp)
                show Brings Try.prog (fun vv w' => Turned (fun _ => False) W w' ∧ vv = .int .i64 Y.n) _
                obtain ⟨c0, c1, c2, c3, _⟩ := cells4 (((VarS.turned hs W (by omega) hT).block _ (Array.getElem?_eq_some_iff.1 HYB.out).1 (fun f => f)).trans HYB.out)
                simp only [execOp, Act.eval, h41]
                go_simp
                try exact ⟨Turned.refl _ _, rfl⟩
              case s8 =>
                refine fun hs hle => stepG_free [40, 42] [] (by kernel_rfl) rfl ?_
                intro ac W hT hI hO
                have hle : hs.length ≤ 1 := hle
                have h40 : ac.tmps.getD 40 undef = .int .i64 X.n := hI 40 (by simp)
                have h42 : ac.tmps.getD 42 undef = .int .i64 Y.n := hI 42 (by simp)
                show Brings Try.prog (fun vv w' => Turned (fun _ => False) W w' ∧ vv = .int .i64 X.n) _
                simp only [execOp, Act.eval, h40, h42]
                go_simp
                try rw [if_pos (by omega)]
                try rw [if_neg (by omega)]
                try exact ⟨Turned.refl _ _, rfl⟩
              case s9 =>
                refine fun hs hle => stepG_free [] [4] (by kernel_rfl) rfl ?_
                intro ac W hT hI hO
                have hle : hs.length ≤ 0 := hle
                have h4 : ac.tmps.getD 4 undef = .pointer (some ⟨w.heap.size, 0, none⟩) := hO 4 (by simp)
                show Brings Try.prog (fun vv w' => Turned (fun _ => False) W w' ∧ vv = .pointer (some ⟨w.heap.size, 1, none⟩)) _
                simp only [execOp, Act.eval, h4]
                go_simp
                try exact ⟨Turned.refl _ _, rfl⟩
              case s10 =>
                refine fun hs hle => stepG_free [44] [] (by kernel_rfl) rfl ?_
                intro ac W hT hI hO
                have hle : hs.length ≤ 0 := hle
                have h44 : ac.tmps.getD 44 undef = .pointer (some ⟨w.heap.size, 1, none⟩) := hI 44 (by simp)
                show Brings Try.prog (fun vv w' => Turned (fun _ => False) W w' ∧ vv = .int .i64 X.n) _
                obtain ⟨c0, c1, c2, c3, _⟩ := cells4 (((VarS.turned hs W (by omega) hT).block _ (Array.getElem?_eq_some_iff.1 HXB.out).1 (fun f => f)).trans HXB.out)
                simp only [execOp, Act.eval, h44]
                go_simp
                try exact ⟨Turned.refl _ _, rfl⟩
              case s11 =>
                refine fun hs hle => stepG_free [] [5] (by kernel_rfl) rfl ?_
                intro ac W hT hI hO
                have hle : hs.length ≤ 0 := hle
                have h5 : ac.tmps.getD 5 undef = .pointer (some ⟨w.heap.size + 1, 0, none⟩) := hO 5 (by simp)
                show Brings Try.prog (fun vv w' => Turned (fun _ => False) W w' ∧ vv = .pointer (some ⟨w.heap.size + 1, 1, none⟩)) _
                simp only [execOp, Act.eval, h5]
                go_simp
                try exact ⟨Turned.refl _ _, rfl⟩
              case s12 =>
                refine fun hs hle => stepG_free [46] [] (by kernel_rfl) rfl ?_
                intro ac W hT hI hO
                have hle : hs.length ≤ 0 := hle
                have h46 : ac.tmps.getD 46 undef = .pointer (some ⟨w.heap.size + 1, 1, none⟩) := hI 46 (by simp)
                show Brings Try.prog (fun vv w' => Turned (fun _ => False) W w' ∧ vv = .int .i64 Y.n) _
                obtain ⟨c0, c1, c2, c3, _⟩ := cells4 (((VarS.turned hs W (by omega) hT).block _ (Array.getElem?_eq_some_iff.1 HYB.out).1 (fun f => f)).trans HYB.out)
                simp only [execOp, Act.eval, h46]
                go_simp
                try exact ⟨Turned.refl _ _, rfl⟩
              case s13 =>
                refine fun hs hle => stepG_free [45, 47] [] (by kernel_rfl) rfl ?_
                intro ac W hT hI hO
                have hle : hs.length ≤ 0 := hle
                have h45 : ac.tmps.getD 45 undef = .int .i64 X.n := hI 45 (by simp)
                have h47 : ac.tmps.getD 47 undef = .int .i64 Y.n := hI 47 (by simp)
                show Brings Try.prog (fun vv w' => Turned (fun _ => False) W w' ∧ vv = .int .i64 Y.n) _
                simp only [execOp, Act.eval, h45, h47]
                go_simp
                try rw [if_pos (by omega)]
                try rw [if_neg (by omega)]
                try exact ⟨Turned.refl _ _, rfl⟩
              case s14 =>
                refine fun hs hlen => stepG_free [48] [] (by kernel_rfl) rfl ?_
                intro ac W hT hI hO
                have h48 : ac.tmps.getD 48 undef = .int .i64 Y.n := hI 48 (by simp)
                obtain rfl : hs = [] := List.eq_nil_of_length_eq_zero hlen
                replace hT : Turned (fun _ => False) w3 W := hT
                show Brings Try.prog (fun vv w' => VarS p bb O m l X.n Y.n w3 [vv] w') _
                simp only [execOp, Act.eval, h48]
                go_simp
                show Calls Try.prog 62 _ W _
                (with_reducible refine (varE Y.n (by unfold I64; omega) W).mono ?_)
                rintro e w' ⟨rfl, T'⟩
                exact ⟨_, rfl, hT.trans T', rfl⟩
              case s15 =>
                refine fun hs hlen => stepG_free [38, 43, 49] [] (by kernel_rfl) rfl ?_
                intro ac W hT hI hO
                have h38 : ac.tmps.getD 38 undef = .pointer (some ⟨bb, 0, none⟩) := hI 38 (by simp)
                have h43 : ac.tmps.getD 43 undef = .int .i64 X.n := hI 43 (by simp)
                have h49 : hs[0]? = some (ac.tmps.getD 49 undef) := hI 49 (by simp)
                obtain ⟨a, rfl⟩ := List.length_eq_one_iff.1 hlen
                obtain ⟨hT1, ha⟩ := hT
                have e49 : a = ac.tmps.getD 49 undef := by simpa using h49
                rw [e49] at ha
                show Brings Try.prog (fun vv w' => VarS p bb O m l X.n Y.n w3 [a, vv] w') _
                have HS88 := Lib.hid (setVar (HK3.out.bo.turned0 hT1) (n := X.n) (k := Y.n) (by unfold I64; omega) (by unfold I64; omega) HSE.out)
                simp only [execOp, Act.eval, h38, h43, ha]
                go_simp
                show Calls Try.prog 88 _ W _
                (with_reducible refine HS88.out.mono ?_)
                rintro e w' ⟨rfl, l2, hl2, A⟩
                exact ⟨_, rfl, rfl, l2, hl2, A.from0 hT1⟩
              case s16 =>
                refine fun hs hle => stepG_free [] [] (by kernel_rfl) rfl ?_
                intro ac W hT hI hO
                have hle : hs.length ≤ 2 := hle
                show Brings Try.prog (fun vv w' => Turned (fun _ => False) W w' ∧ vv = .bool true) _
                simp only [execOp, Act.eval]
                go_simp
                try exact ⟨Turned.refl _ _, rfl⟩
              case s17 =>
                refine fun hs hle => stepG_free [50] [] (by kernel_rfl) rfl ?_
                intro ac W hT hI hO
                have hle : hs.length ≤ 2 := hle
                have h50 : hs[1]? = some (ac.tmps.getD 50 undef) := hI 50 (by simp)
                show Brings Try.prog (fun vv w' => Turned (fun _ => False) W w' ∧ vv = .int .i64 0) _
                have e50 := VarS.val hs W hT h50
                simp only [execOp, Act.eval, e50]
                go_simp
                try exact ⟨Turned.refl _ _, rfl⟩
            case hQ =>
              intro hs5 vs5 w5 hlen hR hV
              have q6 : vs5 6 = .bool true := hV 6 (by simp)
              have q7 : vs5 7 = .int .i64 0 := hV 7 (by simp)
              simp only [List.foldl_cons, List.foldl_nil, List.setIfInBounds_toArray, List.set_cons_zero, List.set_cons_succ, q6, q7]
              obtain ⟨e1, e2, rfl⟩ := list2' hlen
              obtain ⟨_, l2, hl2, A5⟩ := hR
              have HA5 := Lib.hid A5
              have HL2 := Lib.hid hl2
              clear A5 hl2 hlen hV q6 q7
              go_wp2_with fail
              go_ret2
              rw [HE.out]
              refine ⟨v, rfl, rfl, ?_⟩
              rw [show (2000 - ((2000 - c : Nat) : Int)) = (c : Int) from by omega]
              obtain ⟨O', u1, u2, u3⟩ := HK3.out.after HA5.out
              exact UA.from HT3.out ⟨l2, O', HL2.out, u1, u2, u3.mono (fun _ _ e => .inr (.inr e))⟩
      · have by_ : (Y.kind == 0) = false := by simp [hyk]
        have HE := Lib.hid (HU.out.trans (oneU_left hxk hyk))
        have HTI := Lib.hid (tie183 (xv := X) HK3.out hc HYI.out OWY.out hyk vX.1 vX.2.1 fX)
        clear hxk hyk vX fX hok
        rw [LT.val_eq, LT.val_eq] at HTI
        obtain ⟨TU, hTU⟩ : ∃ z, z = Tm.tieU (bt l) (2000 - c) X.n Y.bare := ⟨_, rfl⟩
        rw [← hTU] at HTI HE
        clear hTU
        cases TU with
        | ok l' left' =>
          go_wp2_with (go_at_call 183; (with_reducible refine HTI.out.mono ?_); rintro e w4 ⟨rfl, h4⟩; have H4 := Lib.hid h4; clear h4)
          go_ret2
          rw [HE.out]
          exact ⟨v, rfl, rfl, H4.out.from HT3.out⟩
        | no q =>
          go_wp2_with (go_at_call 183; (with_reducible refine HTI.out.mono ?_); rintro e w4 ⟨rfl, h4⟩; have H4 := Lib.hid h4; clear h4)
          go_ret2
          rw [HE.out]
          exact ⟨v, rfl, rfl, H4.out.from HT3.out⟩
        | over =>
          go_wp2_with (go_at_call 183; (with_reducible refine HTI.out.mono ?_); rintro e w4 ⟨rfl, h4⟩; have H4 := Lib.hid h4; clear h4)
          go_ret2
          rw [HE.out]
          obtain ⟨c', h4⟩ := H4.out
          exact ⟨v, rfl, rfl, c', h4.from HT3.out⟩
    · have bx : (X.kind == 0) = false := by simp [hxk]
      by_cases hyk : Y.kind = 0
      · have vY := Tm.ownB_var OWY.out (by rw [Tm.bare_kind]; exact hyk)
        have fY := WDY.out.free (by rw [Tm.bare_kind]; exact hyk)
        rw [Tm.bare_n] at vY fY
        have by_ : (Y.kind == 0) = true := by simp [hyk]
        have HE := Lib.hid (HU.out.trans (oneU_right hxk hyk))
        have HTI := Lib.hid (tie183 (xv := Y) HK3.out hc HXI.out OWX.out hxk vY.1 vY.2.1 fY)
        clear hxk hyk vY fY hok
        rw [LT.val_eq, LT.val_eq] at HTI
        obtain ⟨TU, hTU⟩ : ∃ z, z = Tm.tieU (bt l) (2000 - c) Y.n X.bare := ⟨_, rfl⟩
        rw [← hTU] at HTI HE
        clear hTU
        cases TU with
        | ok l' left' =>
          go_wp2_with (go_at_call 183; (with_reducible refine HTI.out.mono ?_); rintro e w4 ⟨rfl, h4⟩; have H4 := Lib.hid h4; clear h4)
          go_ret2
          rw [HE.out]
          exact ⟨v, rfl, rfl, H4.out.from HT3.out⟩
        | no q =>
          go_wp2_with (go_at_call 183; (with_reducible refine HTI.out.mono ?_); rintro e w4 ⟨rfl, h4⟩; have H4 := Lib.hid h4; clear h4)
          go_ret2
          rw [HE.out]
          exact ⟨v, rfl, rfl, H4.out.from HT3.out⟩
        | over =>
          go_wp2_with (go_at_call 183; (with_reducible refine HTI.out.mono ?_); rintro e w4 ⟨rfl, h4⟩; have H4 := Lib.hid h4; clear h4)
          go_ret2
          rw [HE.out]
          obtain ⟨c', h4⟩ := H4.out
          exact ⟨v, rfl, rfl, c', h4.from HT3.out⟩
      · have by_ : (Y.kind == 0) = false := by simp [hyk]
        have HE := Lib.hid (HU.out.trans (oneU_heads hxk hyk))
        have HXK := Lib.hid hxk
        have HYK := Lib.hid hyk
        clear hxk hyk hok
        by_cases h1 : X.kind = Y.kind
        · have t1 : (X.kind != Y.kind) = false := by simp [h1]
          by_cases h2 : X.n = Y.n
          · have t2 : (X.n != Y.n) = false := by simp [h2]
            by_cases h3 : X.name = Y.name
            · have t3 : (X.name.toList != Y.name.toList) = false := by simp [h3]
              have t3' : (X.name.toList == Y.name.toList) = true := by simp [h3]
              by_cases h4 : X.args.length = Y.args.length
              · have t4 : ((X.args.length : Int) != (Y.args.length : Int)) = false := by simp [h4]
                have HE2 : Hid (U = .more (X.bare.args.zip Y.bare.args)) := by show _ = _; rw [HE.out, if_pos ⟨h1, h2, h3, h4⟩]
                have HL4 := Lib.hid h4
                clear h1 h2 h3 h4
                have hal : X.args.length ≤ 8 := by
                  by_cases ha : X.bare.args = []
                  · have := Tm.bare_arity X; rw [ha] at this; simp at this; omega
                  · have := (Tm.one_args (WDX.out.ones _ (by rw [Tm.flat_eq]; exact List.mem_cons_self ..)) ha).2.2
                    rw [Tm.bare_arity] at this; exact this
                go_wp2_with fail
                go_loopg [8] X.args.length (fun q i wr => OneL p bb K v st c O m l X Y w.heap.size w3 q i wr)
                case atStart => exact ⟨Nat.le_refl _, rfl, v, (by (rw [List.drop_eq_nil_of_le (by rw [List.length_zip]; omega), List.reverse_nil, List.append_nil]; exact HK3)), .inl rfl, HXB.out, HYB.out, ⟨HXI.out, HYI.out⟩, Turned.refl _ _⟩
                case round =>
                  obtain ⟨HJ, hi, v4, HK4, HO4, hb4, hb5, HI4, HT4⟩ := hrel
                  rcases gk with _ | q
                  · rw [show (((0 : Nat) : Int) - 1) = -1 from rfl] at hi
                    subst hi
                    go_wp2_with fail
                    go_ret2
                    rw [HE2.out]
                    refine ⟨rfl, v4, X.args.zip Y.args, by simpa using HK4.out, ?_, ?_, (HT3.out.mono (fun _ _ f => f.elim)).trans HT4.out⟩
                    · rw [Tm.bare_args, Tm.bare_args, Tm.bares_eq, Tm.bares_eq, List.zip_map]
                      rfl
                    · exact HO4.out.elim .inl (fun e => .inr (fun g hg => Nat.le_trans HT3.out.size (e g hg)))
                  · rw [show (((q + 1 : Nat) : Int) - 1) = (q : Int) from by omega] at hi
                    subst hi
                    have hm : q < X.args.length := by have := HJ.out; omega
                    obtain ⟨xq, hxq⟩ : ∃ y : LT, X.args[q]? = some y := ⟨_, List.getElem?_eq_getElem hm⟩
                    obtain ⟨yq, hyq⟩ : ∃ y : LT, Y.args[q]? = some y := ⟨_, List.getElem?_eq_getElem (by have := HL4.out; omega)⟩
                    obtain ⟨i0, hi0, hz0, hz1, hz2⟩ := info_parts info187
                    have hlen : (st ++ ((X.args.zip Y.args).drop (q + 1)).reverse).length ≤ 20100 := by
                      rw [List.length_append, List.length_reverse, List.length_drop, List.length_zip]; omega
                    obtain ⟨LL, hLL⟩ : ∃ z, z = st ++ ((X.args.zip Y.args).drop (q + 1)).reverse := ⟨_, rfl⟩
                    rw [← hLL] at HK4 hlen
                    have HLL := Lib.hid hLL
                    clear hLL
                    obtain ⟨b, o, hax, _, d0, d1, d2, d3⟩ := HI4.out.1.lies.cell hxq
                    obtain ⟨b2, o2, hay, _, e0, e1, e2, e3⟩ := HI4.out.2.lies.cell hyq
                    have HAX := Lib.hid hax
                    have HAY := Lib.hid hay
                    have HLY := Lib.hid HL4.out.symm
                    have hpl : ∀ k, p k → ¬ v4.ownBlock = some k := fun k hk e => (HK4.out.vO k e).2.1 hk
                    have HXW : Hid (∀ W, Turned (fun k => v4.ownBlock = some k) wr W → (W.cell? ⟨b, o + q * 4, none⟩ = some (.int .i64 xq.kind) ∧ W.cell? ⟨b, o + q * 4 + 1, none⟩ = some (.int .i64 xq.n) ∧ W.cell? ⟨b, o + q * 4 + 2, none⟩ = some (.string xq.name) ∧ W.cell? ⟨b, o + q * 4 + 3, none⟩ = some (.slice xq.at_.1 xq.args.length xq.at_.2)) ∧ (W.cell? ⟨b2, o2 + q * 4, none⟩ = some (.int .i64 yq.kind) ∧ W.cell? ⟨b2, o2 + q * 4 + 1, none⟩ = some (.int .i64 yq.n) ∧ W.cell? ⟨b2, o2 + q * 4 + 2, none⟩ = some (.string yq.name) ∧ W.cell? ⟨b2, o2 + q * 4 + 3, none⟩ = some (.slice yq.at_.1 yq.args.length yq.at_.2))) := fun W T => by
                      have hX := LT.In.turned T (fun k _ hk e => hpl k hk e) (fun _ _ hk => hk) X HI4.out.1
                      have hY := LT.In.turned T (fun k _ hk e => hpl k hk e) (fun _ _ hk => hk) Y HI4.out.2
                      obtain ⟨b', o', h1, _, z⟩ := hX.lies.cell hxq
                      obtain ⟨b2', o2', h2, _, z2⟩ := hY.lies.cell hyq
                      rw [hax] at h1
                      rw [hay] at h2
                      injection h1 with h1
                      injection h1 with h1 h1'
                      injection h2 with h2
                      injection h2 with h2 h2'
                      subst h1 h1' h2 h2'
                      exact ⟨z, z2⟩
                    have hvl : ∀ k, v4.ownBlock = some k → k ≠ w.heap.size ∧ k ≠ w.heap.size + 1 := fun k hk => by
                      have hs3 : w.heap.size + 2 ≤ w3.heap.size := by have := (Array.getElem?_eq_some_iff.1 HYB.out).1; omega
                      rcases HO4.out with e | e
                      · have := HUK.out.row.lt k (e ▸ hk); omega
                      · have := e k hk; omega
                    have HBW : Hid (∀ W, Turned (fun k => v4.ownBlock = some k) wr W → W.heap[w.heap.size]? = some (.cells #[.int .i64 X.kind, .int .i64 X.n, .string X.name, .slice X.at_.1 X.args.length X.at_.2] 27 (0, 0)) ∧ W.heap[w.heap.size + 1]? = some (.cells #[.int .i64 Y.kind, .int .i64 Y.n, .string Y.name, .slice Y.at_.1 Y.args.length Y.at_.2] 27 (0, 0))) := fun W T => ⟨(T.block _ (Array.getElem?_eq_some_iff.1 hb4).1 (fun e => (hvl _ e).1 rfl)).trans hb4, (T.block _ (Array.getElem?_eq_some_iff.1 hb5).1 (fun e => (hvl _ e).2 rfl)).trans hb5⟩
                    have HKB : Hid (∀ W, Turned (fun k => v4.ownBlock = some k) wr W → W.heap[K]? = some (.cells #[.pointer (some ⟨bb, 0, none⟩), v4, .int .i64 (c : Int)] 190 (0, 0))) := fun W T => (T.block _ (Array.getElem?_eq_some_iff.1 HK4.out.k).1 (fun e => (HK4.out.vO K e).2.2 rfl)).trans HK4.out.k
                    have HKW : Hid (∀ W, Turned (fun k => v4.ownBlock = some k) wr W → W.cell? ⟨K, 0, none⟩ = some (.pointer (some ⟨bb, 0, none⟩)) ∧ W.cell? ⟨K, 1, none⟩ = some v4 ∧ W.cell? ⟨K, 2, none⟩ = some (.int .i64 c) ∧ W.frozen? ⟨K, 1, none⟩ = false ∧ W.frozen? ⟨K, 2, none⟩ = false) := fun W T =>
                      ⟨by (rw [cell_of_row W K 0 _ 190 (0, 0) (HKB.out W T)]; rfl), by (rw [cell_of_row W K 1 _ 190 (0, 0) (HKB.out W T)]; rfl), by (rw [cell_of_row W K 2 _ 190 (0, 0) (HKB.out W T)]; rfl), frozen_of_row W K 1 _ 190 (HKB.out W T), frozen_of_row W K 2 _ 190 (HKB.out W T)⟩
                    have hxl := HI4.out.1.len
                    have hylen := HI4.out.2.len
                    have hxm : X.at_.2 ≤ 9223372036854775807 := by have := hxl.2.1; unfold maxLen at this; exact this
                    have hym : Y.at_.2 ≤ 9223372036854775807 := by have := hylen.2.1; unfold maxLen at this; exact this
                    have HXQ := Lib.hid hxq
                    have HYQ := Lib.hid hyq
                    have HB4 := Lib.hid (And.intro hb4 hb5)
                    clear d0 d1 d2 d3 e0 e1 e2 e3 hax hay hb4 hb5 hxq hyq hvl hpl hxl hylen c0 c1 c2 c3 f0 f1 f2 f3 g0 g1 g2 g3 k0 k1 k2 kf1 kf2
                    try clear d0 d1 d2 d3
                    go_wp2_with fail
                    refine wp_region_hsW [108, 109, 110, 111, 112, 113, 114, 115, 116, 117, 118, 119, 120, 121, 122, 123, 124, 125, 126, 127] [16, 17, 20] [2, 1, 1, 1, 1, 0, 0, 0, 0, 0, 0, 0, 0, 0, 0, 0, 1, 2, 2, 2, 3] [124, 125, 100020] (fun dd vv => (match dd with | 108 => vv = .pointer (some ⟨K, 0, none⟩) | 109 => vv = .pointer (some ⟨K, 0, none⟩) | 110 => vv = .pointer (some ⟨K, 0, none⟩) | 111 => vv = .pointer (some ⟨K, 1, none⟩) | 112 => vv = v4 | 113 => vv = .pointer (some ⟨w.heap.size, 3, none⟩) | 114 => vv = .slice (some ⟨b, o, none⟩) X.args.length X.at_.2 | 115 => vv = .int .i64 q | 116 => vv = .pointer (some ⟨b, o + q * 4, none⟩) | 117 => vv = .agg #[.int .i64 xq.kind, .int .i64 xq.n, .string xq.name, .slice xq.at_.1 xq.args.length xq.at_.2] | 118 => vv = .pointer (some ⟨w.heap.size + 1, 3, none⟩) | 119 => vv = .slice (some ⟨b2, o2, none⟩) Y.args.length Y.at_.2 | 120 => vv = .int .i64 q | 121 => vv = .pointer (some ⟨b2, o2 + q * 4, none⟩) | 122 => vv = .agg #[.int .i64 yq.kind, .int .i64 yq.n, .string yq.name, .slice yq.at_.1 yq.args.length yq.at_.2] | 123 => vv = .agg #[.int .i64 xq.kind, .int .i64 xq.n, .string xq.name, .slice xq.at_.1 xq.args.length xq.at_.2, .int .i64 yq.kind, .int .i64 yq.n, .string yq.name, .slice yq.at_.1 yq.args.length yq.at_.2] | 126 => vv = .pointer (some ⟨K, 0, none⟩) | 127 => vv = .pointer (some ⟨K, 1, none⟩) | _ => True : Prop)) (PsS bb K v4 LL.length (LL.flatMap PT.cells) (c : Int) xq yq wr) (by kernel_rfl) rfl (by kernel_rfl) (by kernel_rfl) (by kernel_rfl) (by kernel_rfl) (fun w h => h) (fun hs w w' h T => PsS.turned0 hs w w' h T) ?hs ?hQ
                    case hs =>
                      refine ⟨?s0, ?s1, ?s2, ?s3, ?s4, ?s5, ?s6, ?s7, ?s8, ?s9, ?s10, ?s11, ?s12, ?s13, ?s14, ?s15, ?s16, ?s17, ?s18, ?s19, ?s20, trivial⟩
                      case s0 =>
                        refine fun hs hle => stepG_free [] [0] (by kernel_rfl) rfl ?_
                        intro ac W hT hI hO
                        have hle : hs.length ≤ 2 := hle
                        have h0 : ac.tmps.getD 0 undef = .pointer (some ⟨K, 0, none⟩) := hO 0 (by simp)
                        show Brings Try.prog (fun vv w' => Turned (fun _ => False) W w' ∧ vv = .pointer (some ⟨K, 0, none⟩)) _
                        simp only [execOp, Act.eval, h0]
                        go_simp
                        try exact ⟨Turned.refl _ _, rfl⟩
                      case s1 =>
                        refine fun hs hle => stepG_free [] [0] (by kernel_rfl) rfl ?_
                        intro ac W hT hI hO
                        have hle : hs.length ≤ 1 := hle
                        have h0 : ac.tmps.getD 0 undef = .pointer (some ⟨K, 0, none⟩) := hO 0 (by simp)
                        show Brings Try.prog (fun vv w' => Turned (fun _ => False) W w' ∧ vv = .pointer (some ⟨K, 0, none⟩)) _
                        simp only [execOp, Act.eval, h0]
                        go_simp
                        try exact ⟨Turned.refl _ _, rfl⟩
                      case s2 =>
                        refine fun hs hle => stepG_free [109] [] (by kernel_rfl) rfl ?_
                        intro ac W hT hI hO
                        have hle : hs.length ≤ 1 := hle
                        have h109 : ac.tmps.getD 109 undef = .pointer (some ⟨K, 0, none⟩) := hI 109 (by simp)
                        show Brings Try.prog (fun vv w' => Turned (fun _ => False) W w' ∧ vv = .pointer (some ⟨K, 0, none⟩)) _
                        obtain ⟨k0, k1, k2, kf1, kf2⟩ := HKW.out W (PsS.turned hs W (by omega) hT)
                        simp only [execOp, Act.eval, h109]
                        go_simp
                        try exact ⟨Turned.refl _ _, rfl⟩
                      case s3 =>
                        refine fun hs hle => stepG_free [110] [] (by kernel_rfl) rfl ?_
                        intro ac W hT hI hO
                        have hle : hs.length ≤ 1 := hle
                        have h110 : ac.tmps.getD 110 undef = .pointer (some ⟨K, 0, none⟩) := hI 110 (by simp)
                        show Brings Try.prog (fun vv w' => Turned (fun _ => False) W w' ∧ vv = .pointer (some ⟨K, 1, none⟩)) _
                        simp only [execOp, Act.eval, h110]
                        go_simp
                        try exact ⟨Turned.refl _ _, rfl⟩
                      case s4 =>
                        refine fun hs hle => stepG_free [111] [] (by kernel_rfl) rfl ?_
                        intro ac W hT hI hO
                        have hle : hs.length ≤ 1 := hle
                        have h111 : ac.tmps.getD 111 undef = .pointer (some ⟨K, 1, none⟩) := hI 111 (by simp)
                        show Brings Try.prog (fun vv w' => Turned (fun _ => False) W w' ∧ vv = v4) _
                        obtain ⟨k0, k1, k2, kf1, kf2⟩ := HKW.out W (PsS.turned hs W (by omega) hT)
                        simp only [execOp, Act.eval, h111]
                        go_simp
                        try exact ⟨Turned.refl _ _, rfl⟩
                      case s5 =>
                        refine fun hs hle => stepG_free [] [4] (by kernel_rfl) rfl ?_
                        intro ac W hT hI hO
                        have hle : hs.length ≤ 0 := hle
                        have h4 : ac.tmps.getD 4 undef = .pointer (some ⟨w.heap.size, 0, none⟩) := hO 4 (by simp)
                        show Brings Try.prog (fun vv w' => Turned (fun _ => False) W w' ∧ vv = .pointer (some ⟨w.heap.size, 3, none⟩)) _
                        simp only [execOp, Act.eval, h4]
                        go_simp
                        try exact ⟨Turned.refl _ _, rfl⟩
                      case s6 =>
                        refine fun hs hle => stepG_free [113] [] (by kernel_rfl) rfl ?_
                        intro ac W hT hI hO
                        have hle : hs.length ≤ 0 := hle
                        have h113 : ac.tmps.getD 113 undef = .pointer (some ⟨w.heap.size, 3, none⟩) := hI 113 (by simp)
                        show Brings Try.prog (fun vv w' => Turned (fun _ => False) W w' ∧ vv = .slice (some ⟨b, o, none⟩) X.args.length X.at_.2) _
                        obtain ⟨c0, c1, c2, c3, _⟩ := cells4 ((HBW.out W (PsS.turned hs W (by omega) hT)).1)
                        rw [HAX.out] at c3
                        simp only [execOp, Act.eval, h113]
                        go_simp
                        try exact ⟨Turned.refl _ _, rfl⟩
                      case s7 =>
                        refine fun hs hle => stepG_free [] [8] (by kernel_rfl) rfl ?_
                        intro ac W hT hI hO
                        have hle : hs.length ≤ 0 := hle
                        have h8 : ac.tmps.getD 8 undef = .int .i64 q := hO 8 (by simp)
                        show Brings Try.prog (fun vv w' => Turned (fun _ => False) W w' ∧ vv = .int .i64 q) _
                        simp only [execOp, Act.eval, h8]
                        go_simp
                        try exact ⟨Turned.refl _ _, rfl⟩
                      case s8 =>
                        refine fun hs hle => stepG_free [114, 115] [] (by kernel_rfl) rfl ?_
                        intro ac W hT hI hO
                        have hle : hs.length ≤ 0 := hle
                        have h114 : ac.tmps.getD 114 undef = .slice (some ⟨b, o, none⟩) X.args.length X.at_.2 := hI 114 (by simp)
                        have h115 : ac.tmps.getD 115 undef = .int .i64 q := hI 115 (by simp)
                        show Brings Try.prog (fun vv w' => Turned (fun _ => False) W w' ∧ vv = .pointer (some ⟨b, o + q * 4, none⟩)) _
                        have hyl := HLY.out
                        simp only [execOp, Act.eval, h114, h115]
                        go_simp
                        try rw [if_pos (by omega)]
                        try exact ⟨Turned.refl _ _, rfl⟩
                      case s9 =>
                        refine fun hs hle => stepG_free [116] [] (by kernel_rfl) rfl ?_
                        intro ac W hT hI hO
                        have hle : hs.length ≤ 0 := hle
                        have h116 : ac.tmps.getD 116 undef = .pointer (some ⟨b, o + q * 4, none⟩) := hI 116 (by simp)
                        show Brings Try.prog (fun vv w' => Turned (fun _ => False) W w' ∧ vv = .agg #[.int .i64 xq.kind, .int .i64 xq.n, .string xq.name, .slice xq.at_.1 xq.args.length xq.at_.2]) _
                        obtain ⟨x0, x1, x2, x3⟩ := (HXW.out W (PsS.turned hs W (by omega) hT)).1
                        simp only [execOp, Act.eval, h116]
                        go_simp
                        try exact ⟨Turned.refl _ _, rfl⟩
                      case s10 =>
                        refine fun hs hle => stepG_free [] [5] (by kernel_rfl) rfl ?_
                        intro ac W hT hI hO
                        have hle : hs.length ≤ 0 := hle
                        have h5 : ac.tmps.getD 5 undef = .pointer (some ⟨w.heap.size + 1, 0, none⟩) := hO 5 (by simp)
                        show Brings Try.prog (fun vv w' => Turned (fun _ => False) W w' ∧ vv = .pointer (some ⟨w.heap.size + 1, 3, none⟩)) _
                        simp only [execOp, Act.eval, h5]
                        go_simp
                        try exact ⟨Turned.refl _ _, rfl⟩
                      case s11 =>
                        refine fun hs hle => stepG_free [118] [] (by kernel_rfl) rfl ?_
                        intro ac W hT hI hO
                        have hle : hs.length ≤ 0 := hle
                        have h118 : ac.tmps.getD 118 undef = .pointer (some ⟨w.heap.size + 1, 3, none⟩) := hI 118 (by simp)
                        show Brings Try.prog (fun vv w' => Turned (fun _ => False) W w' ∧ vv = .slice (some ⟨b2, o2, none⟩) Y.args.length Y.at_.2) _
                        obtain ⟨c0, c1, c2, c3, _⟩ := cells4 ((HBW.out W (PsS.turned hs W (by omega) hT)).2)
                        rw [HAY.out] at c3
                        simp only [execOp, Act.eval, h118]
                        go_simp
                        try exact ⟨Turned.refl _ _, rfl⟩
                      case s12 =>
                        refine fun hs hle => stepG_free [] [8] (by kernel_rfl) rfl ?_
                        intro ac W hT hI hO
                        have hle : hs.length ≤ 0 := hle
                        have h8 : ac.tmps.getD 8 undef = .int .i64 q := hO 8 (by simp)
                        show Brings Try.prog (fun vv w' => Turned (fun _ => False) W w' ∧ vv = .int .i64 q) _
                        simp only [execOp, Act.eval, h8]
                        go_simp
                        try exact ⟨Turned.refl _ _, rfl⟩
                      case s13 =>
                        refine fun hs hle => stepG_free [119, 120] [] (by kernel_rfl) rfl ?_
                        intro ac W hT hI hO
                        have hle : hs.length ≤ 0 := hle
                        have h119 : ac.tmps.getD 119 undef = .slice (some ⟨b2, o2, none⟩) Y.args.length Y.at_.2 := hI 119 (by simp)
                        have h120 : ac.tmps.getD 120 undef = .int .i64 q := hI 120 (by simp)
                        show Brings Try.prog (fun vv w' => Turned (fun _ => False) W w' ∧ vv = .pointer (some ⟨b2, o2 + q * 4, none⟩)) _
                        have hyl := HLY.out
                        simp only [execOp, Act.eval, h119, h120]
                        go_simp
                        try rw [if_pos (by omega)]
                        try exact ⟨Turned.refl _ _, rfl⟩
                      case s14 =>
                        refine fun hs hle => stepG_free [121] [] (by kernel_rfl) rfl ?_
                        intro ac W hT hI hO
                        have hle : hs.length ≤ 0 := hle
                        have h121 : ac.tmps.getD 121 undef = .pointer (some ⟨b2, o2 + q * 4, none⟩) := hI 121 (by simp)
                        show Brings Try.prog (fun vv w' => Turned (fun _ => False) W w' ∧ vv = .agg #[.int .i64 yq.kind, .int .i64 yq.n, .string yq.name, .slice yq.at_.1 yq.args.length yq.at_.2]) _
                        obtain ⟨x0, x1, x2, x3⟩ := (HXW.out W (PsS.turned hs W (by omega) hT)).2
                        simp only [execOp, Act.eval, h121]
                        go_simp
                        try exact ⟨Turned.refl _ _, rfl⟩
                      case s15 =>
                        refine fun hs hle => stepG_free [117, 122] [] (by kernel_rfl) rfl ?_
                        intro ac W hT hI hO
                        have hle : hs.length ≤ 0 := hle
                        have h117 : ac.tmps.getD 117 undef = .agg #[.int .i64 xq.kind, .int .i64 xq.n, .string xq.name, .slice xq.at_.1 xq.args.length xq.at_.2] := hI 117 (by simp)
                        have h122 : ac.tmps.getD 122 undef = .agg #[.int .i64 yq.kind, .int .i64 yq.n, .string yq.name, .slice yq.at_.1 yq.args.length yq.at_.2] := hI 122 (by simp)
                        show Brings Try.prog (fun vv w' => Turned (fun _ => False) W w' ∧ vv = .agg #[.int .i64 xq.kind, .int .i64 xq.n, .string xq.name, .slice xq.at_.1 xq.args.length xq.at_.2, .int .i64 yq.kind, .int .i64 yq.n, .string yq.name, .slice yq.at_.1 yq.args.length yq.at_.2]) _
                        refine brings_build187 117 122 rfl h117 h122 ?_
                        exact ⟨Turned.refl _ _, rfl⟩
                      case s16 =>
                        refine fun hs hlen => stepG_free [123] [] (by kernel_rfl) rfl ?_
                        intro ac W hT hI hO
                        have h123 : ac.tmps.getD 123 undef = .agg #[.int .i64 xq.kind, .int .i64 xq.n, .string xq.name, .slice xq.at_.1 xq.args.length xq.at_.2, .int .i64 yq.kind, .int .i64 yq.n, .string yq.name, .slice yq.at_.1 yq.args.length yq.at_.2] := hI 123 (by simp)
                        obtain rfl : hs = [] := List.eq_nil_of_length_eq_zero hlen
                        replace hT : Turned (fun _ => False) wr W := hT
                        show Brings Try.prog (fun vv w' => PsS bb K v4 LL.length (LL.flatMap PT.cells) (c : Int) xq yq wr [vv] w') _
                        refine brings_slice188 123 rfl h123 ?_
                        exact ⟨hT.alloc _, _, rfl, heap_alloc_new W _⟩
                      case s17 =>
                        refine fun hs hlen => stepG_free [112, 124] [] (by kernel_rfl) rfl ?_
                        intro ac W hT hI hO
                        have h112 : ac.tmps.getD 112 undef = v4 := hI 112 (by simp)
                        have h124 : hs[0]? = some (ac.tmps.getD 124 undef) := hI 124 (by simp)
                        obtain ⟨a, rfl⟩ := List.length_eq_one_iff.1 hlen
                        obtain ⟨hT1, g0, ha, hg0⟩ := hT
                        have e124 : a = ac.tmps.getD 124 undef := by simpa using h124
                        rw [e124] at ha
                        show Brings Try.prog (fun vv w' => PsS bb K v4 LL.length (LL.flatMap PT.cells) (c : Int) xq yq wr [a, vv] w') _
                        have hnb := news_block (cs := PT.cells (xq, yq)) (by unfold PT.cells; rw [LT.cells_eq, LT.cells_eq]; exact hg0)
                        refine brings_append_any (.tmp 112) (.tmp 124) 188 rfl 187 i0 _ 8 112 Try.underlying188 hi0 hz0 hz1 hz2 rfl (by decide) v4 _ _ h112 (HK4.out.row.turned0 hT1) (some ⟨g0, 0, none⟩) 1 1 (PT.cells (xq, yq)) ha (fun e => by cases e) (PT.cells_length _) (fun ad e j u hu => by injection e with e; subst e; exact hnb j u hu) (PT.cells_one _) (by unfold maxLen; omega) (by omega) ?_
                        intro v5 w5 hr5 T5 ho5
                        exact ⟨hr5, ho5.elim .inl (fun e => .inr (fun g hg => by rw [hg] at e; injection e with e; have := hT1.size; omega)), (hT1.mono (fun _ _ f => f.elim)).trans T5⟩
                      case s18 =>
                        refine fun hs hle => stepG_free [108] [] (by kernel_rfl) rfl ?_
                        intro ac W hT hI hO
                        have hle : hs.length ≤ 2 := hle
                        have h108 : ac.tmps.getD 108 undef = .pointer (some ⟨K, 0, none⟩) := hI 108 (by simp)
                        show Brings Try.prog (fun vv w' => Turned (fun _ => False) W w' ∧ vv = .pointer (some ⟨K, 0, none⟩)) _
                        obtain ⟨k0, k1, k2, kf1, kf2⟩ := HKW.out W (PsS.turned hs W (by omega) hT)
                        simp only [execOp, Act.eval, h108]
                        go_simp
                        try exact ⟨Turned.refl _ _, rfl⟩
                      case s19 =>
                        refine fun hs hle => stepG_free [126] [] (by kernel_rfl) rfl ?_
                        intro ac W hT hI hO
                        have hle : hs.length ≤ 2 := hle
                        have h126 : ac.tmps.getD 126 undef = .pointer (some ⟨K, 0, none⟩) := hI 126 (by simp)
                        show Brings Try.prog (fun vv w' => Turned (fun _ => False) W w' ∧ vv = .pointer (some ⟨K, 1, none⟩)) _
                        simp only [execOp, Act.eval, h126]
                        go_simp
                        try exact ⟨Turned.refl _ _, rfl⟩
                      case s20 =>
                        refine fun hs hlen => stepG_free [127, 125] [] (by kernel_rfl) rfl ?_
                        intro ac W hT hI hO
                        have h127 : ac.tmps.getD 127 undef = .pointer (some ⟨K, 1, none⟩) := hI 127 (by simp)
                        have h125 : hs[1]? = some (ac.tmps.getD 125 undef) := hI 125 (by simp)
                        obtain ⟨a, b9, rfl⟩ := list2' hlen
                        obtain ⟨hr5, ho5, T5⟩ := hT
                        have e125 : b9 = ac.tmps.getD 125 undef := by simpa using h125
                        obtain ⟨k0, k1, k2, kf1, kf2⟩ := HKW.out W T5
                        obtain ⟨ra, rc, e5⟩ := hr5.shape
                        have hsk := heap_setCell_same W K 1 _ 190 b9 (HKB.out W T5)
                        have HSK := Lib.hid hsk
                        have T6 : Turned (fun k => k = K ∨ v4.ownBlock = some k) W (W.setCell ⟨K, 1, none⟩ b9) := (Turned.refl _ W).setCell (p := ⟨K, 1, none⟩) (.inr (.inl rfl)) b9
                        have hne : b9.ownBlock ≠ some K := fun e => by
                          rcases ho5 with h | h
                          · exact (HK4.out.vO K (h ▸ e)).2.2 rfl
                          · have := h K e; have := (Array.getElem?_eq_some_iff.1 HK4.out.k).1; omega
                        have HR6 := Lib.hid (hr5.setCell (p := ⟨K, 1, none⟩) hne b9)
                        have HT6 := Lib.hid ((T5.mono (fun _ _ e => Or.inr e)).trans T6)
                        have HO6 := Lib.hid ho5
                        have h125' : ac.tmps.getD 125 undef = b9 := e125.symm
                        show Brings Try.prog (fun vv w' => PsS bb K v4 LL.length (LL.flatMap PT.cells) (c : Int) xq yq wr [a, b9, vv] w') _
                        clear hsk T6 hne hr5 T5 ho5 e125 h125
                        subst e5
                        simp only [execOp, Act.eval, h127, h125']
                        go_simp
                        exact ⟨HR6.out, HO6.out, HT6.out, by simpa using HSK.out⟩
                    case hQ =>
                      intro hs15 vs15 w5 hlen15 hR hV
                      simp only [List.foldl_cons, List.foldl_nil, List.setIfInBounds_toArray, List.set_cons_zero, List.set_cons_succ]
                      obtain ⟨z1, a5, z3, rfl⟩ := list3' hlen15
                      obtain ⟨r1, r2, r3, r4⟩ := hR
                      have HPK := Lib.hid (HK4.out.push (X := xq) (Y := yq) ⟨(LT.ins_iff _).1 HI4.out.1.args xq (List.mem_of_getElem? HXQ.out), Tm.ownB_arg OWX.out (by rw [Tm.bare_kind]; exact HXK.out) (by rw [Tm.bare_args, Tm.bares_eq]; exact List.mem_map_of_mem (List.mem_of_getElem? HXQ.out))⟩ ⟨(LT.ins_iff _).1 HI4.out.2.args yq (List.mem_of_getElem? HYQ.out), Tm.ownB_arg OWY.out (by rw [Tm.bare_kind]; exact HYK.out) (by rw [Tm.bare_args, Tm.bares_eq]; exact List.mem_map_of_mem (List.mem_of_getElem? HYQ.out))⟩ r1 r2 r3 r4)
                      have HR2 := Lib.hid r2
                      have HR3 := Lib.hid r3
                      clear r1 r2 r3 r4 hlen15 hV
                      go_wp2_with fail
                      go_roundg q
                      case measure => omega
                      case rel =>
                        have hz : (X.args.zip Y.args).drop q = (xq, yq) :: (X.args.zip Y.args).drop (q + 1) := by
                          have hzl : q < (X.args.zip Y.args).length := by rw [List.length_zip]; have := HL4.out; omega
                          rw [List.drop_eq_getElem_cons hzl]
                          congr 1
                          rw [List.getElem_zip]
                          have h1 := HXQ.out
                          have h2 := HYQ.out
                          rw [List.getElem?_eq_getElem hm] at h1
                          rw [List.getElem?_eq_getElem (by have := HL4.out; omega)] at h2
                          injection h1 with h1
                          injection h2 with h2
                          rw [h1, h2]
                        have hown : ∀ k, k < w3.heap.size → (k = K ∨ v4.ownBlock = some k) → ownU K v O k := fun k hk e => by
                          rcases e with e | e
                          · exact .inl e
                          · rcases HO4.out with h | h
                            · exact .inr (.inl (h ▸ e))
                            · have := h k e; omega
                        have hps : ∀ k, k = w.heap.size ∨ k = w.heap.size + 1 → ¬ (k = K ∨ v4.ownBlock = some k) := fun k hk e => by
                          have hs3 : w.heap.size + 2 ≤ w3.heap.size := by have := (Array.getElem?_eq_some_iff.1 HYB.out).1; omega
                          rcases e with e | e
                          · omega
                          · rcases HO4.out with h | h
                            · have := HUK.out.row.lt k (h ▸ e); omega
                            · have := h k e; omega
                        have hpt : ∀ t : LT, t.In p wr → t.In p w5 := fun t ht => LT.In.turned HR3.out (fun k _ hk e => by
                          rcases e with e | e
                          · exact HK4.out.kO.2 (e ▸ hk)
                          · exact (HK4.out.vO k e).2.1 hk) (fun _ _ hk => hk) t ht
                        refine ⟨by have := HJ.out; show _ ≤ _; omega, rfl, a5, ?_, ?_, ?_, ?_, ⟨hpt _ HI4.out.1, hpt _ HI4.out.2⟩, HT4.out.step HR3.out hown⟩
                        · show UK _ _ _ _ _ _ _ _ _ _
                          rw [hz, List.reverse_cons, ← List.append_assoc, ← HLL.out]
                          exact HPK.out
                        · show _ ∨ _
                          rcases HR2.out with e | e
                          · rcases HO4.out with h | h
                            · exact .inl (e.trans h)
                            · exact .inr (fun g hg => h g (e ▸ hg))
                          · exact .inr (fun g hg => Nat.le_trans HT4.out.size (e g hg))
                        · exact (HR3.out.block _ (Array.getElem?_eq_some_iff.1 HB4.out.1).1 (hps _ (.inl rfl))).trans HB4.out.1
                        · exact (HR3.out.block _ (Array.getElem?_eq_some_iff.1 HB4.out.2).1 (hps _ (.inr rfl))).trans HB4.out.2
              · have t4 : ((X.args.length : Int) != (Y.args.length : Int)) = true := by simp; omega
                have HE2 : Hid (U = .done (.no (2000 - c))) := by show _ = _; rw [HE.out, if_neg (fun e => h4 e.2.2.2)]
                clear h1 h2 h3 h4
                go_wp2_with fail
                go_ret2
                rw [HE2.out]
                refine ⟨v, rfl, rfl, ?_⟩
                rw [show (2000 - ((2000 - c : Nat) : Int)) = (c : Int) from by omega]
                exact UA.same HK3.out (HT3.out.mono (fun _ _ f => f.elim))
            · have t3 : (X.name.toList != Y.name.toList) = true := by rw [bne, str_neq h3]; rfl
              have t3' : (X.name.toList == Y.name.toList) = false := str_neq h3
              have HE2 : Hid (U = .done (.no (2000 - c))) := by show _ = _; rw [HE.out, if_neg (fun e => h3 e.2.2.1)]
              clear h1 h2 h3
              go_wp2_with fail
              go_ret2
              rw [HE2.out]
              refine ⟨v, rfl, rfl, ?_⟩
              rw [show (2000 - ((2000 - c : Nat) : Int)) = (c : Int) from by omega]
              exact UA.same HK3.out (HT3.out.mono (fun _ _ f => f.elim))
          · have t2 : (X.n != Y.n) = true := by simp [h2]
            have HE2 : Hid (U = .done (.no (2000 - c))) := by show _ = _; rw [HE.out, if_neg (fun e => h2 e.2.1)]
            clear h1 h2
            go_wp2_with fail
            go_ret2
            rw [HE2.out]
            refine ⟨v, rfl, rfl, ?_⟩
            rw [show (2000 - ((2000 - c : Nat) : Int)) = (c : Int) from by omega]
            exact UA.same HK3.out (HT3.out.mono (fun _ _ f => f.elim))
        · have t1 : (X.kind != Y.kind) = true := by simp [h1]
          have HE2 : Hid (U = .done (.no (2000 - c))) := by show _ = _; rw [HE.out, if_neg (fun e => h1 e.1)]
          clear h1
          go_wp2_with fail
          go_ret2
          rw [HE2.out]
          refine ⟨v, rfl, rfl, ?_⟩
          rw [show (2000 - ((2000 - c : Nat) : Int)) = (c : Int) from by omega]
          exact UA.same HK3.out (HT3.out.mono (fun _ _ f => f.elim))
end
end Go.Proofs.Ytoihjobdfjajfaa
namespace Go.Proofs.Ytoihjobdfjajfaa
open Go.RowKit Go.Maps
set_option linter.unusedVariables false
set_option linter.unusedSimpArgs false
def pairsT (st : List PT) : List (Tm Unit × Tm Unit) := st.reverse.map fun q => (q.1.bare, q.2.bare)
theorem pairsT_snoc (ss : List PT) (q : PT) : pairsT (ss ++ [q]) = (q.1.bare, q.2.bare) :: pairsT ss := by unfold pairsT; rw [List.reverse_append]; rfl
theorem pairsT_args (ss qs : List PT) : pairsT (ss ++ qs.reverse) = qs.map (fun q => (q.1.bare, q.2.bare)) ++ pairsT ss := by
  unfold pairsT; rw [List.reverse_append, List.reverse_reverse, List.map_append]
theorem PT.flat_at {l : List PT} {i : Nat} {q : PT} (h : l[i]? = some q) (j : Nat) (hj : j < 8) : (l.flatMap PT.cells)[i * 8 + j]? = (PT.cells q)[j]? := by
  induction l generalizing i with
  | nil => simp at h
  | cons y l ih =>
    rw [List.flatMap_cons]
    cases i with
    | zero =>
      simp at h; subst h
      rw [List.getElem?_append_left (by rw [PT.cells_length]; omega), Nat.zero_mul, Nat.zero_add]
    | succ i =>
      simp at h
      rw [List.getElem?_append_right (by rw [PT.cells_length]; omega), PT.cells_length]
      have : (i + 1) * 8 + j - 8 = i * 8 + j := by omega
      rw [this]
      exact ih h
theorem PT.cells_eq (q : PT) : PT.cells q = [.int .i64 q.1.kind, .int .i64 q.1.n, .string q.1.name, .slice q.1.at_.1 q.1.args.length q.1.at_.2, .int .i64 q.2.kind, .int .i64 q.2.n, .string q.2.name, .slice q.2.at_.1 q.2.args.length q.2.at_.2] := by unfold PT.cells; rw [LT.cells_eq, LT.cells_eq]; rfl
theorem turned8 (W : World) (B : Nat) (a b c d e f g h : Value) : Turned (fun k => k = B) W ((((((((W.setCell ⟨B, 0, none⟩ a).setCell ⟨B, 1, none⟩ b).setCell ⟨B, 2, none⟩ c).setCell ⟨B, 3, none⟩ d).setCell ⟨B, 4, none⟩ e).setCell ⟨B, 5, none⟩ f).setCell ⟨B, 6, none⟩ g).setCell ⟨B, 7, none⟩ h) :=
  ((((((((Turned.refl (fun k => k = B) W).setCell (p := ⟨B, 0, none⟩) (.inr rfl) _).setCell (p := ⟨B, 1, none⟩) (.inr rfl) _).setCell (p := ⟨B, 2, none⟩) (.inr rfl) _).setCell (p := ⟨B, 3, none⟩) (.inr rfl) _).setCell (p := ⟨B, 4, none⟩) (.inr rfl) _).setCell (p := ⟨B, 5, none⟩) (.inr rfl) _).setCell (p := ⟨B, 6, none⟩) (.inr rfl) _).setCell (p := ⟨B, 7, none⟩) (.inr rfl) _
theorem set8 {W : World} {B : Nat} {T : TypeId} {a b c d e f g h a' b' c' d' e' f' g' h' : Value} (hb : W.heap[B]? = some (.cells #[a, b, c, d, e, f, g, h] T (0, 0))) :
    ((((((((W.setCell ⟨B, 0, none⟩ a').setCell ⟨B, 1, none⟩ b').setCell ⟨B, 2, none⟩ c').setCell ⟨B, 3, none⟩ d').setCell ⟨B, 4, none⟩ e').setCell ⟨B, 5, none⟩ f').setCell ⟨B, 6, none⟩ g').setCell ⟨B, 7, none⟩ h').heap[B]? = some (.cells #[a', b', c', d', e', f', g', h'] T (0, 0)) := by
  have h0 := heap_setCell_same W B 0 _ T a' hb
  have h1 := heap_setCell_same _ B 1 _ T b' h0
  have h2 := heap_setCell_same _ B 2 _ T c' h1
  have h3 := heap_setCell_same _ B 3 _ T d' h2
  have h4 := heap_setCell_same _ B 4 _ T e' h3
  have h5 := heap_setCell_same _ B 5 _ T f' h4
  have h6 := heap_setCell_same _ B 6 _ T g' h5
  have h7 := heap_setCell_same _ B 7 _ T h' h6
  simpa using h7
theorem cells8 {W : World} {B : Nat} {T : TypeId} {a b c d e f g h : Value} (hb : W.heap[B]? = some (.cells #[a, b, c, d, e, f, g, h] T (0, 0))) :
    (W.cell? ⟨B, 0, none⟩ = some a ∧ W.cell? ⟨B, 1, none⟩ = some b ∧ W.cell? ⟨B, 2, none⟩ = some c ∧ W.cell? ⟨B, 3, none⟩ = some d ∧ W.cell? ⟨B, 4, none⟩ = some e ∧ W.cell? ⟨B, 5, none⟩ = some f ∧ W.cell? ⟨B, 6, none⟩ = some g ∧ W.cell? ⟨B, 7, none⟩ = some h) ∧
    W.frozen? ⟨B, 0, none⟩ = false ∧ W.frozen? ⟨B, 1, none⟩ = false ∧ W.frozen? ⟨B, 2, none⟩ = false ∧ W.frozen? ⟨B, 3, none⟩ = false ∧ W.frozen? ⟨B, 4, none⟩ = false ∧ W.frozen? ⟨B, 5, none⟩ = false ∧ W.frozen? ⟨B, 6, none⟩ = false ∧ W.frozen? ⟨B, 7, none⟩ = false := by
  refine ⟨⟨?_, ?_, ?_, ?_, ?_, ?_, ?_, ?_⟩, ?_, ?_, ?_, ?_, ?_, ?_, ?_, ?_⟩
  · rw [cell_of_row W B 0 _ T (0, 0) hb]; rfl
  · rw [cell_of_row W B 1 _ T (0, 0) hb]; rfl
  · rw [cell_of_row W B 2 _ T (0, 0) hb]; rfl
  · rw [cell_of_row W B 3 _ T (0, 0) hb]; rfl
  · rw [cell_of_row W B 4 _ T (0, 0) hb]; rfl
  · rw [cell_of_row W B 5 _ T (0, 0) hb]; rfl
  · rw [cell_of_row W B 6 _ T (0, 0) hb]; rfl
  · rw [cell_of_row W B 7 _ T (0, 0) hb]; rfl
  all_goals exact frozen_of_row W B _ _ T hb
theorem UK.last {p O : Nat → Prop} {bb K m g n cap : Nat} {ss : List PT} {q : PT} {c : Int} {l : TL} {w : World} (h : UK p bb K (.slice (some ⟨g, 0, none⟩) n cap) (ss ++ [q]) c O m l w) :
    n = ss.length + 1 ∧ ss.length + 1 ≤ cap ∧ cap ≤ maxLen ∧ (w.cell? ⟨g, ss.length * 8, none⟩ = some (.int .i64 q.1.kind) ∧ w.cell? ⟨g, ss.length * 8 + 1, none⟩ = some (.int .i64 q.1.n) ∧ w.cell? ⟨g, ss.length * 8 + 2, none⟩ = some (.string q.1.name) ∧ w.cell? ⟨g, ss.length * 8 + 3, none⟩ = some (.slice q.1.at_.1 q.1.args.length q.1.at_.2)) ∧
    w.cell? ⟨g, ss.length * 8 + 4, none⟩ = some (.int .i64 q.2.kind) ∧ w.cell? ⟨g, ss.length * 8 + 5, none⟩ = some (.int .i64 q.2.n) ∧ w.cell? ⟨g, ss.length * 8 + 6, none⟩ = some (.string q.2.name) ∧ w.cell? ⟨g, ss.length * 8 + 7, none⟩ = some (.slice q.2.at_.1 q.2.args.length q.2.at_.2) := by
  have hr := h.row
  have hn : n = ss.length + 1 := by
    rcases hr.2 with ⟨e, _⟩ | ⟨g', c', cur, e, _⟩
    · cases e
    · injection e with _ e _; simp at e; exact e
  subst hn
  have hcap : ss.length + 1 ≤ cap ∧ cap ≤ maxLen := by
    rcases hr.2 with ⟨e, _⟩ | ⟨g', c', cur, e, _, h1, h2, _⟩
    · cases e
    · injection e with _ _ e; subst e; simp at h1; omega
  have hr' : Row w 187 8 (.slice (some ⟨g, 0, none⟩) (ss.length + 1) cap) (ss.length + 1) ((ss ++ [q]).flatMap PT.cells) := by simpa using hr
  have hi : (ss ++ [q])[ss.length]? = some q := by simp
  refine ⟨rfl, hcap.1, hcap.2, ⟨hr'.cells rfl _ _ ?_, hr'.cells rfl _ _ ?_, hr'.cells rfl _ _ ?_, hr'.cells rfl _ _ ?_⟩, hr'.cells rfl _ _ ?_, hr'.cells rfl _ _ ?_, hr'.cells rfl _ _ ?_, hr'.cells rfl _ _ ?_⟩
  · have := PT.flat_at hi 0 (by omega); rw [Nat.add_zero] at this; rw [this, PT.cells_eq]; rfl
  all_goals (rw [PT.flat_at hi _ (by omega), PT.cells_eq]; rfl)
theorem UK.popc {p O : Nat → Prop} {bb K m g n cap : Nat} {ss : List PT} {q : PT} {c : Int} {l : TL} {w : World} (h : UK p bb K (.slice (some ⟨g, 0, none⟩) n cap) (ss ++ [q]) c O m l w) (c' : Int) :
    UK p bb K (.slice (some ⟨g, 0, none⟩) ss.length cap) ss c' O m l ((w.setCell ⟨K, 1, none⟩ (.slice (some ⟨g, 0, none⟩) ss.length cap)).setCell ⟨K, 2, none⟩ (.int .i64 c')) ∧ Turned (fun k => k = K) w ((w.setCell ⟨K, 1, none⟩ (.slice (some ⟨g, 0, none⟩) ss.length cap)).setCell ⟨K, 2, none⟩ (.int .i64 c')) := by
  obtain ⟨hn, h1, h2, _⟩ := h.last
  subst hn
  have T : Turned (fun k => k = K) w (w.setCell ⟨K, 1, none⟩ (.slice (some ⟨g, 0, none⟩) ss.length cap)) := (Turned.refl (fun k => k = K) w).setCell (p := ⟨K, 1, none⟩) (.inr rfl) _
  have hp : ∀ q : LT, q.In p w → q.In p (w.setCell ⟨K, 1, none⟩ (.slice (some ⟨g, 0, none⟩) ss.length cap)) := fun q hq => LT.In.turned T (fun k _ hk e => h.kO.2 (e ▸ hk)) (fun _ _ hk => hk) q hq
  have hr' : Row w 187 8 (.slice (some ⟨g, 0, none⟩) (ss.length + 1) cap) (ss.length + 1) ((ss ++ [q]).flatMap PT.cells) := by simpa using h.row
  have ht := hr'.take (m := ss.length) (c := cap) (by omega) (by omega) (Nat.le_refl _)
  rw [List.flatMap_append, List.take_left' (by rw [PT.flat_length])] at ht
  have h1 : UK p bb K (.slice (some ⟨g, 0, none⟩) ss.length cap) ss c O m l (w.setCell ⟨K, 1, none⟩ (.slice (some ⟨g, 0, none⟩) ss.length cap)) := by
    refine ⟨h.bo.turned T (fun k hk e => ⟨fun c => h.kO.1 (e ▸ c), fun c => h.kO.2 (e ▸ c)⟩), ?_, ht.turned T (fun k hk e => (h.vO k (by simpa [Value.ownBlock] using hk)).2.2 e), fun q' hq => ?_, h.kO, fun g' hg => h.vO g' (by simpa [Value.ownBlock] using hg)⟩
    · have := heap_setCell_same w K 1 _ 190 (.slice (some ⟨g, 0, none⟩) ss.length cap) h.k
      simpa using this
    · have hm := h.mem q' (List.mem_append_left _ hq)
      exact ⟨⟨hp _ hm.1.1, hm.1.2⟩, hp _ hm.2.1, hm.2.2⟩
  obtain ⟨h3, T3⟩ := h1.cost c'
  exact ⟨h3, T.trans T3⟩
def BxS (q : PT) (wr : World) : List Value → World → Prop
  | [], W => Turned (fun _ => False) wr W
  | [b], W => Turned (fun _ => False) wr W ∧ ∃ B a0 a1 a2 a3 a4 a5 a6 a7, b = .pointer (some ⟨B, 0, none⟩) ∧ wr.heap.size ≤ B ∧ W.heap[B]? = some (.cells #[a0, a1, a2, a3, a4, a5, a6, a7] 187 (0, 0))
  | [b, _], W => Turned (fun _ => False) wr W ∧ ∃ B, b = .pointer (some ⟨B, 0, none⟩) ∧ wr.heap.size ≤ B ∧ W.heap[B]? = some (.cells #[.int .i64 q.1.kind, .int .i64 q.1.n, .string q.1.name, .slice q.1.at_.1 q.1.args.length q.1.at_.2, .int .i64 q.2.kind, .int .i64 q.2.n, .string q.2.name, .slice q.2.at_.1 q.2.args.length q.2.at_.2] 187 (0, 0))
  | _, _ => False
theorem BxS.turned0 {q : PT} {wr : World} : ∀ (hs : List Value) (w w' : World), BxS q wr hs w → Turned (fun _ => False) w w' → BxS q wr hs w'
  | [], _, _, h, T => Turned.trans h T
  | [_], _, _, ⟨h1, B, a0, a1, a2, a3, a4, a5, a6, a7, h2, h3, h4⟩, T => ⟨h1.trans T, B, a0, a1, a2, a3, a4, a5, a6, a7, h2, h3, (T.block _ (Array.getElem?_eq_some_iff.1 h4).1 (fun f => f)).trans h4⟩
  | [_, _], _, _, ⟨h1, B, h2, h3, h4⟩, T => ⟨h1.trans T, B, h2, h3, (T.block _ (Array.getElem?_eq_some_iff.1 h4).1 (fun f => f)).trans h4⟩
  | _ :: _ :: _ :: _, _, _, h, _ => h.elim
theorem BxS.turned {q : PT} {wr : World} : ∀ (hs : List Value) (W : World), BxS q wr hs W → Turned (fun _ => False) wr W
  | [], _, h => h
  | [_], _, h => h.1
  | [_, _], _, h => h.1
  | _ :: _ :: _ :: _, _, h => h.elim
structure AllI (p : Nat → Prop) (bb K : Nat) (v0 : Value) (O0 : Nat → Prop) (m : Nat) (l0 : TL) (U : Tm.UR) (w0 : World) (v : Value) (st : List PT) (c : Nat) (O : Nat → Prop) (l : TL) (wr : World) : Prop where
  uk : UK p bb K v st c O m l wr
  c2 : c ≤ 2000
  len : st.length ≤ 1 + 8 * c
  pre : ∃ a, bt l = a ++ bt l0
  same : Tm.unify (bt l) (2000 - c) (pairsT st) = U
  own : ∀ k, ownU K v O k → k < w0.heap.size → ownU K v0 O0 k
  ownO : ∀ k, O k → k < w0.heap.size → O0 k
  turned : Turned (ownU K v0 O0) w0 wr
def AllQ (p : Nat → Prop) (bb K : Nat) (v0 : Value) (O0 : Nat → Prop) (m : Nat) (l0 : TL) (w0 : World) : Tm.UR → Ending → World → Prop
  | .ok l' left', e, w' => e = .returned (.tuple #[.bool true, .int .i64 0]) ∧ ∃ v st O l, bt l = l' ∧ UK p bb K v st (2000 - (left' : Int)) O m l w' ∧ (∀ k, O k → k < w0.heap.size → O0 k) ∧ Turned (ownU K v0 O0) w0 w'
  | .no q, e, w' => e = .returned (.tuple #[.bool false, .int .i64 0]) ∧ ∃ v st O l, (∃ a, bt l = a ++ bt l0) ∧ UK p bb K v st (2000 - (q : Int)) O m l w' ∧ (∀ k, O k → k < w0.heap.size → O0 k) ∧ Turned (ownU K v0 O0) w0 w'
  | .over, e, w' => e = .returned (.tuple #[.bool false, .int .i64 12]) ∧ ∃ v st c O l, (∃ a, bt l = a ++ bt l0) ∧ UK p bb K v st c O m l w' ∧ (∀ k, O k → k < w0.heap.size → O0 k) ∧ Turned (ownU K v0 O0) w0 w'
section
variable {p O0 O : Nat → Prop} {bb K m : Nat} {v0 v : Value} {st : List PT} {c : Nat} {l0 l : TL} {U : Tm.UR} {w0 wr w5 w6 w' : World}
theorem AllI.far {O' : Nat → Prop} {v' : Value} (h : AllI p bb K v0 O0 m l0 U w0 v st c O l wr) (T5 : Turned (fun _ => False) wr w5) (T6 : Turned (fun k => k = K) w5 w6) (T : Turned (ownU K v' O) w6 w') (hv : ∀ k, v'.ownBlock = some k → v.ownBlock = some k) (hO : ∀ k, O' k → k < w6.heap.size → O k) :
    (∀ k, O' k → k < w0.heap.size → O0 k) ∧ Turned (ownU K v0 O0) w0 w' ∧ w0.heap.size ≤ w6.heap.size := by
  have hs : w0.heap.size ≤ w6.heap.size := by have := h.turned.size; have := T5.size; have := T6.size; omega
  refine ⟨fun k hk hl => h.ownO k (hO k hk (Nat.lt_of_lt_of_le hl hs)) hl, ?_, hs⟩
  have R5 := h.turned.trans (T5.mono (fun _ _ f => f.elim))
  have R6 := R5.step T6 (fun i hi e => .inl e)
  exact R6.step T (fun i hi e => h.own i (e.elim .inl (fun e => e.elim (fun e => .inr (.inl (hv i e))) (fun e => .inr (.inr e)))) hi)
set_option maxRecDepth 100000 in
set_option maxHeartbeats 12800000 in
theorem all153 {w : World} (h : UK p bb K v st c O m l w) (hc : c ≤ 2000) (hl : st.length ≤ 1 + 8 * c) :
    Calls Try.prog 153 #[.pointer (some ⟨K, 0, none⟩)] w (AllQ p bb K v O m l w (Tm.unify (bt l) (2000 - c) (pairsT st))) := by
  obtain ⟨U, hU⟩ : ∃ z, z = Tm.unify (bt l) (2000 - c) (pairsT st) := ⟨_, rfl⟩
  rw [← hU]
  have hinit : Hid (AllI p bb K v O m l U w v st c O l w) := ⟨h, hc, hl, ⟨[], rfl⟩, hU.symm, fun _ hk _ => hk, fun _ hk _ => hk, Turned.refl _ _⟩
  clear h hl hU
  go_enter Try.func153, Try.ntmps153
  go_wp2_with fail
  go_loopg [] (2000 - c) (fun k wr => ∃ v' st' c' O' l', Hid (c' + k = 2000) ∧ Hid (AllI p bb K v O m l U w v' st' c' O' l' wr))
  case atStart => exact ⟨v, st, c, O, l, show _ = _ by omega, hinit⟩
  case round =>
    obtain ⟨v1, st1, c1, O1, l1, HG, HI⟩ := hrel
    obtain ⟨k0, k1, k2, kf1, kf2⟩ := HI.out.uk.kcells
    rcases List.eq_nil_or_concat st1 with rfl | ⟨ss, q, rfl⟩
    · obtain ⟨a, cap, rfl⟩ := HI.out.uk.row.shape
      have hu : U = .ok (bt l1) (2000 - c1) := HI.out.same.symm
      have HE := Lib.hid hu
      clear hu
      go_wp2_with fail
      go_ret2
      rw [HE.out]
      have huk := HI.out.uk
      rw [show (c1 : Int) = 2000 - ((2000 - c1 : Nat) : Int) from by have := HI.out.c2; omega] at huk
      exact ⟨rfl, .slice a ([] : List PT).length cap, [], O1, l1, rfl, huk, HI.out.ownO, HI.out.turned⟩
    · rw [List.concat_eq_append] at HI
      obtain ⟨g, cap, rfl⟩ := HI.out.uk.row.shape_pos (by simp)
      obtain ⟨hn1, hc1, hc2, _⟩ := HI.out.uk.last
      have hcm : cap ≤ 9223372036854775807 := by unfold maxLen at hc2; exact hc2
      have hss : ss.length ≤ 16001 := by have h1 := HI.out.len; have h2 := HI.out.c2; rw [List.length_append, List.length_singleton] at h1; omega
      rw [List.length_append, List.length_singleton] at k1
      have HKW : Hid (∀ W, Turned (fun _ => False) wr W → W.cell? ⟨K, 0, none⟩ = some (.pointer (some ⟨bb, 0, none⟩)) ∧ W.cell? ⟨K, 1, none⟩ = some (.slice (some ⟨g, 0, none⟩) (ss.length + 1) cap) ∧ W.cell? ⟨K, 2, none⟩ = some (.int .i64 c1) ∧ W.frozen? ⟨K, 1, none⟩ = false ∧ W.frozen? ⟨K, 2, none⟩ = false) := fun W T => by
        have := (HI.out.uk.turned0 T).kcells
        rw [List.length_append, List.length_singleton] at this
        exact this
      have HLW := Lib.hid (fun W (T : Turned (fun _ => False) wr W) => (HI.out.uk.turned0 T).last.2.2.2)
      clear hn1
      go_wp2_with fail
      refine wp_region_hsW [13, 14, 15, 16, 17, 18, 19, 20, 21, 22, 23, 24, 4] [12, 13] [1, 1, 1, 1, 1, 1, 1, 1, 1, 1, 1, 1, 1, 2] [4, 100013] (fun dd vv => (match dd with | 13 => vv = .pointer (some ⟨K, 0, none⟩) | 14 => vv = .pointer (some ⟨K, 0, none⟩) | 15 => vv = .pointer (some ⟨K, 1, none⟩) | 16 => vv = .slice (some ⟨g, 0, none⟩) (ss.length + 1) cap | 17 => vv = .pointer (some ⟨K, 0, none⟩) | 18 => vv = .pointer (some ⟨K, 0, none⟩) | 19 => vv = .pointer (some ⟨K, 1, none⟩) | 20 => vv = .slice (some ⟨g, 0, none⟩) (ss.length + 1) cap | 21 => vv = .int .i64 ((ss.length : Int) + 1) | 22 => vv = .int .i64 ss.length | 23 => vv = .pointer (some ⟨g, ss.length * 8, none⟩) | 24 => vv = .agg #[.int .i64 q.1.kind, .int .i64 q.1.n, .string q.1.name, .slice q.1.at_.1 q.1.args.length q.1.at_.2, .int .i64 q.2.kind, .int .i64 q.2.n, .string q.2.name, .slice q.2.at_.1 q.2.args.length q.2.at_.2] | _ => True : Prop)) (BxS q wr) (by kernel_rfl) rfl (by kernel_rfl) (by kernel_rfl) (by kernel_rfl) (by kernel_rfl) (fun w h => h) (fun hs w w' h T => BxS.turned0 hs w w' h T) ?hs ?hQ
      case hs =>
        refine ⟨?s0, ?s1, ?s2, ?s3, ?s4, ?s5, ?s6, ?s7, ?s8, ?s9, ?s10, ?s11, ?s12, ?s13, trivial⟩
        case s0 =>
          refine fun hs hle => stepG_free [] [0] (by kernel_rfl) rfl ?_
          intro ac W hT hI hO
          have hle : hs.length ≤ 1 := hle
          have h0 : ac.tmps.getD 0 undef = .pointer (some ⟨K, 0, none⟩) := hO 0 (by simp)
          show Brings Try.prog (fun vv w' => Turned (fun _ => False) W w' ∧ vv = .pointer (some ⟨K, 0, none⟩)) _
          simp only [execOp, Act.eval, h0]
          go_simp
          try exact ⟨Turned.refl _ _, rfl⟩
        case s1 =>
          refine fun hs hle => stepG_free [13] [] (by kernel_rfl) rfl ?_
          intro ac W hT hI hO
          have hle : hs.length ≤ 1 := hle
          have h13 : ac.tmps.getD 13 undef = .pointer (some ⟨K, 0, none⟩) := hI 13 (by simp)
          show Brings Try.prog (fun vv w' => Turned (fun _ => False) W w' ∧ vv = .pointer (some ⟨K, 0, none⟩)) _
          obtain ⟨k0, k1, k2, kf1, kf2⟩ := HKW.out W (BxS.turned hs W hT)
          simp only [execOp, Act.eval, h13]
          go_simp
          try exact ⟨Turned.refl _ _, rfl⟩
        case s2 =>
          refine fun hs hle => stepG_free [14] [] (by kernel_rfl) rfl ?_
          intro ac W hT hI hO
          have hle : hs.length ≤ 1 := hle
          have h14 : ac.tmps.getD 14 undef = .pointer (some ⟨K, 0, none⟩) := hI 14 (by simp)
          show Brings Try.prog (fun vv w' => Turned (fun _ => False) W w' ∧ vv = .pointer (some ⟨K, 1, none⟩)) _
          simp only [execOp, Act.eval, h14]
          go_simp
          try exact ⟨Turned.refl _ _, rfl⟩
        case s3 =>
          refine fun hs hle => stepG_free [15] [] (by kernel_rfl) rfl ?_
          intro ac W hT hI hO
          have hle : hs.length ≤ 1 := hle
          have h15 : ac.tmps.getD 15 undef = .pointer (some ⟨K, 1, none⟩) := hI 15 (by simp)
          show Brings Try.prog (fun vv w' => Turned (fun _ => False) W w' ∧ vv = .slice (some ⟨g, 0, none⟩) (ss.length + 1) cap) _
          obtain ⟨k0, k1, k2, kf1, kf2⟩ := HKW.out W (BxS.turned hs W hT)
          simp only [execOp, Act.eval, h15]
          go_simp
          try exact ⟨Turned.refl _ _, rfl⟩
        case s4 =>
          refine fun hs hle => stepG_free [] [0] (by kernel_rfl) rfl ?_
          intro ac W hT hI hO
          have hle : hs.length ≤ 1 := hle
          have h0 : ac.tmps.getD 0 undef = .pointer (some ⟨K, 0, none⟩) := hO 0 (by simp)
          show Brings Try.prog (fun vv w' => Turned (fun _ => False) W w' ∧ vv = .pointer (some ⟨K, 0, none⟩)) _
          simp only [execOp, Act.eval, h0]
          go_simp
          try exact ⟨Turned.refl _ _, rfl⟩
        case s5 =>
          refine fun hs hle => stepG_free [17] [] (by kernel_rfl) rfl ?_
          intro ac W hT hI hO
          have hle : hs.length ≤ 1 := hle
          have h17 : ac.tmps.getD 17 undef = .pointer (some ⟨K, 0, none⟩) := hI 17 (by simp)
          show Brings Try.prog (fun vv w' => Turned (fun _ => False) W w' ∧ vv = .pointer (some ⟨K, 0, none⟩)) _
          obtain ⟨k0, k1, k2, kf1, kf2⟩ := HKW.out W (BxS.turned hs W hT)
          simp only [execOp, Act.eval, h17]
          go_simp
          try exact ⟨Turned.refl _ _, rfl⟩
        case s6 =>
          refine fun hs hle => stepG_free [18] [] (by kernel_rfl) rfl ?_
          intro ac W hT hI hO
          have hle : hs.length ≤ 1 := hle
          have h18 : ac.tmps.getD 18 undef = .pointer (some ⟨K, 0, none⟩) := hI 18 (by simp)
          show Brings Try.prog (fun vv w' => Turned (fun _ => False) W w' ∧ vv = .pointer (some ⟨K, 1, none⟩)) _
          simp only [execOp, Act.eval, h18]
          go_simp
          try exact ⟨Turned.refl _ _, rfl⟩
        case s7 =>
          refine fun hs hle => stepG_free [19] [] (by kernel_rfl) rfl ?_
          intro ac W hT hI hO
          have hle : hs.length ≤ 1 := hle
          have h19 : ac.tmps.getD 19 undef = .pointer (some ⟨K, 1, none⟩) := hI 19 (by simp)
          show Brings Try.prog (fun vv w' => Turned (fun _ => False) W w' ∧ vv = .slice (some ⟨g, 0, none⟩) (ss.length + 1) cap) _
          obtain ⟨k0, k1, k2, kf1, kf2⟩ := HKW.out W (BxS.turned hs W hT)
          simp only [execOp, Act.eval, h19]
          go_simp
          try exact ⟨Turned.refl _ _, rfl⟩
        case s8 =>
          refine fun hs hle => stepG_free [20] [] (by kernel_rfl) rfl ?_
          intro ac W hT hI hO
          have hle : hs.length ≤ 1 := hle
          have h20 : ac.tmps.getD 20 undef = .slice (some ⟨g, 0, none⟩) (ss.length + 1) cap := hI 20 (by simp)
          show Brings Try.prog (fun vv w' => Turned (fun _ => False) W w' ∧ vv = .int .i64 ((ss.length : Int) + 1)) _
          simp only [execOp, Act.eval, h20]
          go_simp
          try exact ⟨Turned.refl _ _, rfl⟩
        case s9 =>
          refine fun hs hle => stepG_free [21] [] (by kernel_rfl) rfl ?_
          intro ac W hT hI hO
          have hle : hs.length ≤ 1 := hle
          have h21 : ac.tmps.getD 21 undef = .int .i64 ((ss.length : Int) + 1) := hI 21 (by simp)
          show Brings Try.prog (fun vv w' => Turned (fun _ => False) W w' ∧ vv = .int .i64 ss.length) _
          simp only [execOp, Act.eval, h21]
          go_simp
          try rw [wrapI (by omega) (by omega)]
          try exact ⟨Turned.refl _ _, rfl⟩
        case s10 =>
          refine fun hs hle => stepG_free [16, 22] [] (by kernel_rfl) rfl ?_
          intro ac W hT hI hO
          have hle : hs.length ≤ 1 := hle
          have h16 : ac.tmps.getD 16 undef = .slice (some ⟨g, 0, none⟩) (ss.length + 1) cap := hI 16 (by simp)
          have h22 : ac.tmps.getD 22 undef = .int .i64 ss.length := hI 22 (by simp)
          show Brings Try.prog (fun vv w' => Turned (fun _ => False) W w' ∧ vv = .pointer (some ⟨g, ss.length * 8, none⟩)) _
          simp only [execOp, Act.eval, h16, h22]
          go_simp
          try rw [if_pos (by omega)]
          try exact ⟨Turned.refl _ _, rfl⟩
        case s11 =>
          refine fun hs hle => stepG_free [23] [] (by kernel_rfl) rfl ?_
          intro ac W hT hI hO
          have hle : hs.length ≤ 1 := hle
          have h23 : ac.tmps.getD 23 undef = .pointer (some ⟨g, ss.length * 8, none⟩) := hI 23 (by simp)
          show Brings Try.prog (fun vv w' => Turned (fun _ => False) W w' ∧ vv = .agg #[.int .i64 q.1.kind, .int .i64 q.1.n, .string q.1.name, .slice q.1.at_.1 q.1.args.length q.1.at_.2, .int .i64 q.2.kind, .int .i64 q.2.n, .string q.2.name, .slice q.2.at_.1 q.2.args.length q.2.at_.2]) _
          obtain ⟨⟨x0, x1, x2, x3⟩, x4, x5, x6, x7⟩ := HLW.out W (BxS.turned hs W hT)
          simp only [execOp, Act.eval, h23]
          go_simp
          try exact ⟨Turned.refl _ _, rfl⟩
        case s12 =>
          refine fun hs hlen => stepG_free [] [] (by kernel_rfl) rfl ?_
          intro ac W hT hI hO
          obtain rfl : hs = [] := List.eq_nil_of_length_eq_zero hlen
          replace hT : Turned (fun _ => False) wr W := hT
          show Brings Try.prog (fun vv w' => BxS q wr [vv] w') _
          simp only [execOp, Act.eval]
          go_simp
          exact ⟨hT.alloc _, _, _, _, _, _, _, _, _, _, rfl, hT.size, heap_alloc_new W _⟩
        case s13 =>
          refine fun hs hlen => stepG_free [4, 24] [] (by kernel_rfl) rfl ?_
          intro ac W hT hI hO
          have h4 : hs[0]? = some (ac.tmps.getD 4 undef) := hI 4 (by simp)
          have h24 : ac.tmps.getD 24 undef = .agg #[.int .i64 q.1.kind, .int .i64 q.1.n, .string q.1.name, .slice q.1.at_.1 q.1.args.length q.1.at_.2, .int .i64 q.2.kind, .int .i64 q.2.n, .string q.2.name, .slice q.2.at_.1 q.2.args.length q.2.at_.2] := hI 24 (by simp)
          obtain ⟨a, rfl⟩ := List.length_eq_one_iff.1 hlen
          obtain ⟨hT1, B, a0, a1, a2, a3, a4, a5, a6, a7, ha, hB, hb⟩ := hT
          have e4 : a = ac.tmps.getD 4 undef := by simpa using h4
          rw [e4] at ha
          obtain ⟨⟨p0, p1, p2, p3, p4, p5, p6, p7⟩, f0, f1, f2, f3, f4, f5, f6, f7⟩ := cells8 hb
          have HST := Lib.hid (set8 (a' := .int .i64 q.1.kind) (b' := .int .i64 q.1.n) (c' := .string q.1.name) (d' := .slice q.1.at_.1 q.1.args.length q.1.at_.2) (e' := .int .i64 q.2.kind) (f' := .int .i64 q.2.n) (g' := .string q.2.name) (h' := .slice q.2.at_.1 q.2.args.length q.2.at_.2) hb)
          have HT8 := Lib.hid (hT1.step (turned8 W B (.int .i64 q.1.kind) (.int .i64 q.1.n) (.string q.1.name) (.slice q.1.at_.1 q.1.args.length q.1.at_.2) (.int .i64 q.2.kind) (.int .i64 q.2.n) (.string q.2.name) (.slice q.2.at_.1 q.2.args.length q.2.at_.2)) (fun i hi e => by omega))
          have HBB : Hid (wr.heap.size ≤ B) := hB
          show Brings Try.prog (fun vv w' => BxS q wr [a, vv] w') _
          have HEA := Lib.hid (e4.trans ha)
          clear hb hT1 hB
          simp only [execOp, Act.eval, ha, h24]
          go_simp
          exact ⟨HT8.out, B, by first | rfl | exact HEA.out, HBB.out, HST.out⟩
      case hQ =>
        intro hs2 vs2 w5 hlen2 hR hV
        obtain ⟨b1, b2, rfl⟩ := list2' hlen2
        obtain ⟨T5, B, rfl, hB, hb5⟩ := hR
        have q4 : some (Value.pointer (some ⟨B, 0, none⟩)) = some (vs2 4) := hV 4 (by simp)
        have q4' : vs2 4 = .pointer (some ⟨B, 0, none⟩) := (Option.some.inj q4).symm
        simp only [List.foldl_cons, List.foldl_nil, List.setIfInBounds_toArray, List.set_cons_zero, List.set_cons_succ, q4']
        clear q4 q4' hV hlen2
        have HB5 := Lib.hid hb5
        have HBN : Hid (wr.heap.size ≤ B) := hB
        have hpc := (HI.out.uk.turned0 T5).popc ((c1 : Int) + 1)
        have HPC := Lib.hid (And.intro (hpc.1.turned0 (Turned.refl _ _).drew) hpc.2.drew)
        have HT5 := Lib.hid T5
        have hkl := (Array.getElem?_eq_some_iff.1 HI.out.uk.k).1
        have hKB : K ≠ B := by have := HBN.out; omega
        have hBK : B ≠ K := by have := HBN.out; omega
        obtain ⟨k0, k1, k2, kf1, kf2⟩ := HKW.out w5 T5
        obtain ⟨⟨p0, p1, p2, p3, p4, p5, p6, p7⟩, _⟩ := cells8 hb5
        have hc2k := HI.out.c2
        have hcc : ss.length ≤ cap := by omega
        have hwr : IntKind.i64.wrap (ss.length : Int) = (ss.length : Int) := wrapI (by omega) (by omega)
        clear T5 hB hb5 hpc
        go_wp2_with fail
        refine region_tail 14 (by kernel_rfl) (by kernel_rfl) ?_
        simp only [List.take_succ_cons, List.take_zero, List.drop_succ_cons, List.drop_zero]
        repeat still_step
        refine wpStill_nil ?_
        by_cases hover : c1 = 2000
        · have hu : U = .over := by
            have := HI.out.same
            rw [hover, pairsT_snoc, show 2000 - 2000 = 0 from rfl, Tm.unify_zero] at this
            exact this.symm
          have HE := Lib.hid hu
          have d1 : decide (2000 < (c1 : Int) + 1) = true := decide_eq_true (by omega)
          clear hu hover
          go_wp2_with fail
          go_ret2
          rw [HE.out]
          obtain ⟨r1, r2, _⟩ := HI.out.far HT5.out HPC.out.2 (Turned.refl (ownU K (.slice (some ⟨g, 0, none⟩) (ss ++ [q]).length cap) O1) _) (fun k hk => hk) (O' := O1) (fun k hk _ => hk)
          exact ⟨rfl, _, ss, _, O1, l1, HI.out.pre, HPC.out.1, r1, r2⟩
        · have d1 : decide (2000 < (c1 : Int) + 1) = false := decide_eq_false (by omega)
          obtain ⟨hx, hy⟩ := HI.out.uk.mem q (by simp)
          have T6 := HPC.out.2
          have hin : ∀ t : LT, t.In p wr → t.In p ((w5.setCell ⟨K, 1, none⟩ (.slice (some ⟨g, 0, none⟩) ss.length cap)).setCell ⟨K, 2, none⟩ (.int .i64 ((c1 : Int) + 1))).drew := fun t ht => LT.In.turned T6 (fun k _ hk e => HI.out.uk.kO.2 (e ▸ hk)) (fun _ _ hk => hk) _ (ht.turned0 HT5.out)
          have hone := one173 (c := c1 + 1) (by rw [show (((c1 + 1 : Nat) : Int)) = (c1 : Int) + 1 from by omega]; exact HPC.out.1) (by omega) (by omega) (hin _ hx.1) hx.2 (hin _ hy.1) hy.2
          rw [LT.val_eq, LT.val_eq] at hone
          have hun := HI.out.same
          rw [pairsT_snoc, show 2000 - c1 = (2000 - (c1 + 1)) + 1 from by omega] at hun
          obtain ⟨S, hS⟩ : ∃ z, z = Tm.oneU (bt l1) (2000 - (c1 + 1)) (Tm.walkT (bt l1) q.1.bare) (Tm.walkT (bt l1) q.2.bare) := ⟨_, rfl⟩
          rw [← hS] at hone
          have HON := Lib.hid hone
          have HUN := Lib.hid hun
          have HS := Lib.hid hS
          clear hone hun hS hx hy hin T6
          cases S with
          | more ps =>
            have hu := (Tm.unify_more (r := pairsT ss) HS.out.symm).symm.trans HUN.out
            have HE := Lib.hid hu
            clear hu
            go_wp2_with (go_at_call 173; (with_reducible refine HON.out.mono ?_); rintro e w7 ⟨rfl, v7, qs, u7, hq7, ho7, T7⟩; have HU7 := Lib.hid u7; have HQ7 := Lib.hid hq7; have HO7 := Lib.hid ho7; have HT7 := Lib.hid T7; clear u7 hq7 ho7 T7)
            go_roundg (2000 - (c1 + 1))
            case measure => have := HG.out; omega
            case rel =>
              obtain ⟨r1, r2, r3⟩ := HI.out.far HT5.out HPC.out.2 HT7.out (fun k hk => by simpa [Value.ownBlock] using hk) (O' := O1) (fun k hk _ => hk)
              refine ⟨v7, ss ++ qs.reverse, c1 + 1, O1, l1, show _ = _ by omega, HU7.out, by omega, ?_, HI.out.pre, ?_, ?_, r1, r2⟩
              · have hql : qs.length ≤ 8 := by
                  have h1 := congrArg List.length HQ7.out
                  rw [List.length_map] at h1
                  have h2 := Tm.oneU_more_len HS.out.symm (Tm.walkT_own HI.out.uk.bo.ok _ _ (Nat.le_refl _) (HI.out.uk.mem q (by simp)).1.2)
                  omega
                have := HI.out.len
                rw [List.length_append, List.length_singleton] at this
                rw [List.length_append, List.length_reverse]
                omega
              · rw [pairsT_args, HQ7.out]; exact HE.out
              · intro k hk hl
                rcases hk with e | e | e
                · exact .inl e
                · rcases HO7.out with h | h
                  · exact HI.out.own k (.inr (.inl (by rw [h] at e; simpa [Value.ownBlock] using e))) hl
                  · have := h k e; omega
                · exact HI.out.own k (.inr (.inr e)) hl
          | done r =>
          cases r with
          | ok l' left' =>
            have hu := (Tm.unify_ok (r := pairsT ss) HS.out.symm).symm.trans HUN.out
            have HE := Lib.hid hu
            have hlf := Tm.oneU_left HS.out.symm
            have HLF := Lib.hid hlf
            clear hu hlf
            go_wp2_with (go_at_call 173; (with_reducible refine HON.out.mono ?_); rintro e w7 ⟨v7, rfl, rfl, l7, O7, hl7, u7, ho7, T7⟩; have HU7 := Lib.hid u7; have HL7 := Lib.hid hl7; have HO7 := Lib.hid ho7; have HT7 := Lib.hid T7; clear u7 hl7 ho7 T7)
            go_roundg left'
            case measure => have := HG.out; have := HLF.out; omega
            case rel =>
              obtain ⟨r1, r2, r3⟩ := HI.out.far HT5.out HPC.out.2 HT7.out (fun k hk => by simpa [Value.ownBlock] using hk) HO7.out
              have hlf := HLF.out
              refine ⟨.slice (some ⟨g, 0, none⟩) ss.length cap, ss, 2000 - left', O7, l7, show _ = _ by omega, ?_, by omega, ?_, ?_, ?_, ?_, r1, r2⟩
              · rw [show (((2000 - left' : Nat) : Int)) = 2000 - (left' : Int) from by omega]; exact HU7.out
              · have := HI.out.len
                rw [List.length_append, List.length_singleton] at this
                omega
              · obtain ⟨a, ha⟩ := HI.out.pre
                obtain ⟨a2, ha2⟩ := Tm.oneU_pre HS.out.symm
                exact ⟨a2 ++ a, by rw [HL7.out, ha2, ha, List.append_assoc]⟩
              · rw [HL7.out, show 2000 - (2000 - left') = left' from by omega]; exact HE.out
              · intro k hk hl
                rcases hk with e | e | e
                · exact .inl e
                · exact HI.out.own k (.inr (.inl (by simpa [Value.ownBlock] using e))) hl
                · exact HI.out.own k (.inr (.inr (HO7.out k e (Nat.lt_of_lt_of_le hl r3)))) hl
          | no q' =>
            have hu := (Tm.unify_no (r := pairsT ss) HS.out.symm).symm.trans HUN.out
            have HE := Lib.hid hu
            clear hu
            go_wp2_with (go_at_call 173; (with_reducible refine HON.out.mono ?_); rintro e w7 ⟨v7, rfl, rfl, l7, O7, hl7, u7, ho7, T7⟩; have HU7 := Lib.hid u7; have HL7 := Lib.hid hl7; have HO7 := Lib.hid ho7; have HT7 := Lib.hid T7; clear u7 hl7 ho7 T7)
            go_ret2
            rw [← HE.out]
            obtain ⟨r1, r2, r3⟩ := HI.out.far HT5.out HPC.out.2 HT7.out (fun k hk => by simpa [Value.ownBlock] using hk) HO7.out
            exact ⟨rfl, _, ss, O7, l7, by rw [HL7.out]; exact HI.out.pre, HU7.out, r1, r2⟩
          | over =>
            have hu := (Tm.unify_over (r := pairsT ss) HS.out.symm).symm.trans HUN.out
            have HE := Lib.hid hu
            clear hu
            go_wp2_with (go_at_call 173; (with_reducible refine HON.out.mono ?_); rintro e w7 ⟨v7, rfl, rfl, c7, l7, O7, hl7, u7, ho7, T7⟩; have HU7 := Lib.hid u7; have HL7 := Lib.hid hl7; have HO7 := Lib.hid ho7; have HT7 := Lib.hid T7; clear u7 hl7 ho7 T7)
            go_ret2
            rw [← HE.out]
            obtain ⟨r1, r2, r3⟩ := HI.out.far HT5.out HPC.out.2 HT7.out (fun k hk => by simpa [Value.ownBlock] using hk) HO7.out
            exact ⟨rfl, _, ss, c7, O7, l7, by rw [HL7.out]; exact HI.out.pre, HU7.out, r1, r2⟩
end
end Go.Proofs.Ytoihjobdfjajfaa
namespace Go.Proofs.Ytoihjobdfjajfaa
open Go.RowKit Go.Maps
set_option linter.unusedVariables false
set_option linter.unusedSimpArgs false
theorem undoO101 {p O : Nat → Prop} {bb m : Nat} {l : TL} {w : World} (h : BO p bb O m l w) (n : Nat) (hn : n ≤ l.length) :
    Calls Try.prog 101 #[.pointer (some ⟨bb, 0, none⟩), .int .i64 n] w fun e w' => e = .returned (.bool true) ∧ After p bb O m (l.drop (l.length - n)) w w' := by
  obtain ⟨sb, lv, tv, B, hO⟩ := h.bi
  refine (undo101 B n hn).mono ?_
  rintro e w' ⟨rfl, ⟨tv', B', ho⟩, T⟩
  refine ⟨rfl, O, ⟨⟨sb, lv, tv', B', fun k hk => hO k ?_⟩, fun b hb => h.box b (List.mem_of_mem_drop hb), fun k hk => Nat.lt_of_lt_of_le (h.lt k hk) T.size, h.sep⟩, fun k hk _ => hk, T.mono (fun k _ e => hO k (e.elim (fun e => .inr (.inl e)) (fun e => e.elim (fun e => .inr (.inr (.inl e))) (fun e => .inr (.inr (.inr e))))))⟩
  rcases hk with e | e | e | e
  · exact .inl e
  · exact .inr (.inl e)
  · exact .inr (.inr (.inl e))
  · exact .inr (.inr (.inr (ho ▸ e)))
noncomputable def bothR (m : Nat) (l : Tm.Trail) (x y : Tm Unit) : Bool × Int × Int × Tm.Trail :=
  if Tm.ownB m x = true ∧ Tm.ownB m y = true then
    match Tm.unify l 2000 [(x, y)] with
    | .ok l' left' => (true, 2000 - (left' : Int), 0, l')
    | .no q => (false, 2000 - (q : Int), 0, l)
    | .over => (false, 0, 12, l)
  else (false, 0, 1, l)
theorem UK.new {p O : Nat → Prop} {bb m : Nat} {l : TL} {w : World} {x y : LT} (h : BO p bb O m l w) (hx : x.In p w) (gx : Tm.ownB m x.bare = true) (hy : y.In p w) (gy : Tm.ownB m y.bare = true) :
    UK p bb (w.heap.size + 1) (.slice (some ⟨w.heap.size, 0, none⟩) 1 1) [(x, y)] 0 O m l ((w.alloc (.cells #[.int .i64 x.kind, .int .i64 x.n, .string x.name, .slice x.at_.1 x.args.length x.at_.2, .int .i64 y.kind, .int .i64 y.n, .string y.name, .slice y.at_.1 y.args.length y.at_.2] 187)).alloc (.cells #[.pointer (some ⟨bb, 0, none⟩), .slice (some ⟨w.heap.size, 0, none⟩) 1 1, .int .i64 0] 190)) := by
  have T : Turned (fun _ => False) w ((w.alloc (.cells #[.int .i64 x.kind, .int .i64 x.n, .string x.name, .slice x.at_.1 x.args.length x.at_.2, .int .i64 y.kind, .int .i64 y.n, .string y.name, .slice y.at_.1 y.args.length y.at_.2] 187)).alloc (.cells #[.pointer (some ⟨bb, 0, none⟩), .slice (some ⟨w.heap.size, 0, none⟩) 1 1, .int .i64 0] 190)) := ((Turned.refl _ w).alloc _).alloc _
  refine ⟨h.turned0 T, heap_alloc2_new w _ _, ?_, fun q hq => ?_, ⟨fun e => by have := h.lt _ e; omega, fun e => by have := h.plt _ e; omega⟩, fun g hg => ?_⟩
  · have := Row.made w 187 8 #[.int .i64 x.kind, .int .i64 x.n, .string x.name, .slice x.at_.1 x.args.length x.at_.2, .int .i64 y.kind, .int .i64 y.n, .string y.name, .slice y.at_.1 y.args.length y.at_.2] 1 rfl (by unfold maxLen; omega)
    have := this.turned0 ((Turned.refl (fun _ => False) _).alloc (.cells #[.pointer (some ⟨bb, 0, none⟩), .slice (some ⟨w.heap.size, 0, none⟩) 1 1, .int .i64 0] 190))
    simpa [PT.cells_eq] using this
  · rw [List.mem_singleton] at hq
    rw [hq]
    exact ⟨⟨hx.turned0 T, gx⟩, hy.turned0 T, gy⟩
  · simp [Value.ownBlock] at hg
    subst hg
    exact ⟨fun e => by have := h.lt _ e; omega, fun e => by have := h.plt _ e; omega, by omega⟩
section
variable {p O : Nat → Prop} {bb m : Nat} {l : TL} {w w' : World}
theorem both_after {v v' : Value} {st : List PT} {c : Int} {K : Nat} {O' : Nat → Prop} {l2 : TL} {w4 w6 w5 : World} (T4 : Turned (fun _ => False) w w4) (T5 : Turned (fun _ => False) w w5) (hK : w.heap.size ≤ K) (hv : ∀ g, v.ownBlock = some g → w.heap.size ≤ g) (u : UK p bb K v' st c O' m l2 w6) (ho : ∀ k, O' k → k < w5.heap.size → O k) (T6 : Turned (ownU K v O) w5 w6) : After p bb O m l2 w w6 :=
  ⟨O', u.bo, fun k hk hl => ho k hk (Nat.lt_of_lt_of_le hl T5.size), (T5.mono (fun _ _ f => f.elim)).step T6 (fun i hi e => by
    rcases e with e | e | e
    · omega
    · have := hv i e; omega
    · exact e)⟩
set_option maxRecDepth 100000 in
set_option maxHeartbeats 12800000 in
theorem bothO110 {x y : LT} (h : BO p bb O m l w) (hx : x.In p w) (sx : slim x) (hy : y.In p w) (sy : slim y) :
    Calls Try.prog 110 #[.pointer (some ⟨bb, 0, none⟩), x.val, y.val] w fun e w' => e = .returned (.tuple #[.bool (bothR m (bt l) x.bare y.bare).1, .int .i64 (bothR m (bt l) x.bare y.bare).2.1, .int .i64 (bothR m (bt l) x.bare y.bare).2.2.1]) ∧ ∃ l2, bt l2 = (bothR m (bt l) x.bare y.bare).2.2.2 ∧ After p bb O m l2 w w' := by
  have h2 := twoBox w (.cells #[.int .i64 x.kind, .int .i64 x.n, .string x.name, .slice x.at_.1 x.args.length x.at_.2] 27) (.cells #[.int .i64 y.kind, .int .i64 y.n, .string y.name, .slice y.at_.1 y.args.length y.at_.2] 27)
  obtain ⟨w2, hw2⟩ : ∃ z, z = (w.alloc (.cells #[.int .i64 x.kind, .int .i64 x.n, .string x.name, .slice x.at_.1 x.args.length x.at_.2] 27)).alloc (.cells #[.int .i64 y.kind, .int .i64 y.n, .string y.name, .slice y.at_.1 y.args.length y.at_.2] 27) := ⟨_, rfl⟩
  rw [← hw2] at h2
  have hbx : ∀ W, Turned (fun _ => False) w2 W → W.heap[w.heap.size]? = some (.cells #[.int .i64 x.kind, .int .i64 x.n, .string x.name, .slice x.at_.1 x.args.length x.at_.2] 27 (0, 0)) ∧ W.heap[w.heap.size + 1]? = some (.cells #[.int .i64 y.kind, .int .i64 y.n, .string y.name, .slice y.at_.1 y.args.length y.at_.2] 27 (0, 0)) := fun W hW => ⟨(hW.block _ (by have := h2.2.1; omega) (fun f => f)).trans h2.2.2.1, (hW.block _ (by have := h2.2.1; omega) (fun f => f)).trans h2.2.2.2⟩
  have hox : ∀ W, Turned (fun _ => False) w2 W → Calls Try.prog 144 #[.pointer (some ⟨bb, 0, none⟩), x.val] W fun e w' => e = .returned (.bool (Tm.ownB m x.bare)) ∧ Turned (fun _ => False) W w' := fun W hW => by
    obtain ⟨sb, lv, tv, B, _⟩ := h.bi
    rw [ownB_bare]
    exact own144 (B.turned0 (h2.1.trans hW)) (hx.turned0 (h2.1.trans hW)) sx
  have hoy : ∀ W, Turned (fun _ => False) w2 W → Calls Try.prog 144 #[.pointer (some ⟨bb, 0, none⟩), y.val] W fun e w' => e = .returned (.bool (Tm.ownB m y.bare)) ∧ Turned (fun _ => False) W w' := fun W hW => by
    obtain ⟨sb, lv, tv, B, _⟩ := h.bi
    rw [ownB_bare]
    exact own144 (B.turned0 (h2.1.trans hW)) (hy.turned0 (h2.1.trans hW)) sy
  obtain ⟨R, hR⟩ : ∃ z, z = bothR m (bt l) x.bare y.bare := ⟨_, rfl⟩
  rw [← hR]
  have hsame : ∀ W, Turned (fun _ => False) w2 W → After p bb O m l w W := fun W hW => ⟨O, h.turned0 (h2.1.trans hW), fun _ hk _ => hk, (h2.1.trans hW).mono (fun _ _ f => f.elim)⟩
  rw [LT.val_eq] at hox hoy ⊢
  rw [LT.val_eq y]
  have HOX := Lib.hid hox
  have HOY := Lib.hid hoy
  have HBX := Lib.hid hbx
  have HW2 := Lib.hid hw2
  have HT2 := Lib.hid h2.1
  have HH := Lib.hid h
  have HX := Lib.hid hx
  have HY := Lib.hid hy
  have HSAME := Lib.hid hsame
  clear hox hoy hbx hw2 h2 h hx hy sx sy hsame
  cases gx : Tm.ownB m x.bare with
  | false =>
    have hr : R = (false, 0, 1, bt l) := by rw [hR]; unfold bothR; rw [if_neg (fun c => by rw [gx] at c; exact Bool.false_ne_true c.1)]
    rw [gx] at HOX
    have HR := Lib.hid hr
    clear hr hR gx
    go_enter Try.func110, Try.ntmps110
    go_wp2_with (go_at_call 144; rw [← HW2.out]; (with_reducible refine (HOX.out _ (Turned.refl _ _)).mono ?_); rintro e w3 ⟨rfl, T3⟩)
    go_ret3
    rw [HR.out]
    exact ⟨rfl, l, rfl, HSAME.out _ T3⟩
  | true =>
    rw [gx] at HOX
    cases gy : Tm.ownB m y.bare with
    | false =>
      have hr : R = (false, 0, 1, bt l) := by rw [hR]; unfold bothR; rw [if_neg (fun c => by rw [gy] at c; exact Bool.false_ne_true c.2)]
      rw [gy] at HOY
      have HR := Lib.hid hr
      clear hr hR gx gy
      go_enter Try.func110, Try.ntmps110
      go_wp2_with (first
        | (go_at_call 144; (with_reducible refine (HOY.out _ T3).mono ?_); rintro e w4 ⟨rfl, T4⟩)
        | (go_at_call 144; rw [← HW2.out]; (with_reducible refine (HOX.out _ (Turned.refl _ _)).mono ?_); rintro e w3 ⟨rfl, T3⟩; obtain ⟨c0, c1, c2, c3, _⟩ := cells4 (HBX.out _ T3).2))
      go_ret3
      rw [HR.out]
      exact ⟨rfl, l, rfl, HSAME.out _ (T3.trans T4)⟩
    | true =>
      rw [gy] at HOY
      have hr : R = match Tm.unify (bt l) 2000 [(x.bare, y.bare)] with
          | .ok l' left' => (true, 2000 - (left' : Int), 0, l')
          | .no q => (false, 2000 - (q : Int), 0, bt l)
          | .over => (false, 0, 12, bt l) := by rw [hR]; unfold bothR; rw [if_pos ⟨gx, gy⟩]
      have hall : ∀ W, Turned (fun _ => False) w2 W → Calls Try.prog 153 #[.pointer (some ⟨W.heap.size + 1, 0, none⟩)] ((W.alloc (.cells #[.int .i64 x.kind, .int .i64 x.n, .string x.name, .slice x.at_.1 x.args.length x.at_.2, .int .i64 y.kind, .int .i64 y.n, .string y.name, .slice y.at_.1 y.args.length y.at_.2] 187)).alloc (.cells #[.pointer (some ⟨bb, 0, none⟩), .slice (some ⟨W.heap.size, 0, none⟩) 1 1, .int .i64 0] 190)) (AllQ p bb (W.heap.size + 1) (.slice (some ⟨W.heap.size, 0, none⟩) 1 1) O m l ((W.alloc (.cells #[.int .i64 x.kind, .int .i64 x.n, .string x.name, .slice x.at_.1 x.args.length x.at_.2, .int .i64 y.kind, .int .i64 y.n, .string y.name, .slice y.at_.1 y.args.length y.at_.2] 187)).alloc (.cells #[.pointer (some ⟨bb, 0, none⟩), .slice (some ⟨W.heap.size, 0, none⟩) 1 1, .int .i64 0] 190)) (Tm.unify (bt l) 2000 [(x.bare, y.bare)])) := fun W hW =>
        all153 (c := 0) (UK.new (HH.out.turned0 (HT2.out.trans hW)) (HX.out.turned0 (HT2.out.trans hW)) gx (HY.out.turned0 (HT2.out.trans hW)) gy) (by omega) (by simp)
      obtain ⟨U, hU⟩ : ∃ z, z = Tm.unify (bt l) 2000 [(x.bare, y.bare)] := ⟨_, rfl⟩
      rw [← hU] at hr hall
      have HALL := Lib.hid hall
      clear hR hU hall gx gy
      have HTT : Hid (∀ W W', Turned (fun _ => False) w2 W → Turned (fun _ => False) W W' → Turned (fun _ => False) w W') := fun W W' h1 h2 => (HT2.out.trans h1).trans h2
      cases U with
      | ok l' left' =>
        have HR := Lib.hid hr
        clear hr
        go_enter Try.func110, Try.ntmps110
        go_wp2_with (first
          | (go_at_call 144; (with_reducible refine (HOY.out _ T3).mono ?_); rintro e w4 ⟨rfl, T4⟩; have HT4 := Lib.hid (T3.trans T4); clear c0 c1 c2 c3 T3 T4)
          | (go_at_call 144; rw [← HW2.out]; (with_reducible refine (HOX.out _ (Turned.refl _ _)).mono ?_); rintro e w3 ⟨rfl, T3⟩; obtain ⟨c0, c1, c2, c3, _⟩ := cells4 (HBX.out _ T3).2)
          | (go_at_call 111; (with_reducible refine (markO111 (HH.out.turned0 (HT2.out.trans HT4.out))).mono ?_); rintro e w5 ⟨rfl, T5⟩; have HT5 := Lib.hid (HT4.out.trans T5); obtain ⟨x0, x1, x2, x3, _⟩ := cells4 (HBX.out _ HT5.out).1; obtain ⟨y0, y1, y2, y3, _⟩ := cells4 (HBX.out _ HT5.out).2; clear T5)
          | (go_at_call 153; (with_reducible refine (HALL.out _ HT5.out).mono ?_); rintro e w6 ⟨rfl, v6, st6, O6, l6, hl6, u6, ho6, T6⟩; have HL6 := Lib.hid hl6; have HU6 := Lib.hid u6; have HO6 := Lib.hid ho6; have HT6 := Lib.hid T6; obtain ⟨k0, k1, k2, _⟩ := u6.kcells; clear hl6 u6 ho6 T6))
        go_region
        go_wp2_with fail
        go_ret3
        rw [HR.out]
        have hw5 : Turned (fun _ => False) w ((w5.alloc (.cells #[.int .i64 x.kind, .int .i64 x.n, .string x.name, .slice x.at_.1 x.args.length x.at_.2, .int .i64 y.kind, .int .i64 y.n, .string y.name, .slice y.at_.1 y.args.length y.at_.2] 187)).alloc (.cells #[.pointer (some ⟨bb, 0, none⟩), .slice (some ⟨w5.heap.size, 0, none⟩) 1 1, .int .i64 0] 190)) := HTT.out _ _ HT5.out (((Turned.refl _ w5).alloc _).alloc _)
        have hsz : w.heap.size ≤ w5.heap.size := (HT2.out.trans HT5.out).size
        exact ⟨rfl, l6, HL6.out, (both_after hw5 hw5 (by omega) (fun g hg => by (simp [Value.ownBlock] at hg; omega)) HU6.out HO6.out HT6.out).turned0 (Turned.refl _ _).drew⟩
      | no q =>
        have HR := Lib.hid hr
        clear hr
        go_enter Try.func110, Try.ntmps110
        go_wp2_with (first
          | (go_at_call 144; (with_reducible refine (HOY.out _ T3).mono ?_); rintro e w4 ⟨rfl, T4⟩; have HT4 := Lib.hid (T3.trans T4); clear c0 c1 c2 c3 T3 T4)
          | (go_at_call 144; rw [← HW2.out]; (with_reducible refine (HOX.out _ (Turned.refl _ _)).mono ?_); rintro e w3 ⟨rfl, T3⟩; obtain ⟨c0, c1, c2, c3, _⟩ := cells4 (HBX.out _ T3).2)
          | (go_at_call 111; (with_reducible refine (markO111 (HH.out.turned0 (HT2.out.trans HT4.out))).mono ?_); rintro e w5 ⟨rfl, T5⟩; have HT5 := Lib.hid (HT4.out.trans T5); obtain ⟨x0, x1, x2, x3, _⟩ := cells4 (HBX.out _ HT5.out).1; obtain ⟨y0, y1, y2, y3, _⟩ := cells4 (HBX.out _ HT5.out).2; clear T5)
          | (go_at_call 153; (with_reducible refine (HALL.out _ HT5.out).mono ?_); rintro e w6 ⟨rfl, v6, st6, O6, l6, hl6, u6, ho6, T6⟩; have HL6 := Lib.hid hl6; have HU6 := Lib.hid u6; have HO6 := Lib.hid ho6; have HT6 := Lib.hid T6; clear hl6 u6 ho6 T6)
          | (go_at_call 101; have hun := undoO101 (n := l.length) HU6.out.bo (by obtain ⟨a, ha⟩ := HL6.out; have := congrArg List.length ha; rw [List.length_append, bt_length, bt_length] at this; omega); (with_reducible refine hun.mono ?_); rintro e w7 ⟨rfl, A7⟩; have HA7 := Lib.hid A7; obtain ⟨k0, k1, k2, _⟩ := (HU6.out.after A7).choose_spec.1.kcells; clear A7 hun))
        go_region
        go_wp2_with fail
        go_ret3
        rw [HR.out]
        have hw5 : Turned (fun _ => False) w ((w5.alloc (.cells #[.int .i64 x.kind, .int .i64 x.n, .string x.name, .slice x.at_.1 x.args.length x.at_.2, .int .i64 y.kind, .int .i64 y.n, .string y.name, .slice y.at_.1 y.args.length y.at_.2] 187)).alloc (.cells #[.pointer (some ⟨bb, 0, none⟩), .slice (some ⟨w5.heap.size, 0, none⟩) 1 1, .int .i64 0] 190)) := HTT.out _ _ HT5.out (((Turned.refl _ w5).alloc _).alloc _)
        have hsz : w.heap.size ≤ w5.heap.size := (HT2.out.trans HT5.out).size
        have h6 := both_after hw5 hw5 (by omega) (fun g hg => by (simp [Value.ownBlock] at hg; omega)) HU6.out HO6.out HT6.out
        refine ⟨rfl, l6.drop (l6.length - l.length), ?_, ?_⟩
        · obtain ⟨a, ha⟩ := HL6.out
          have hlen := congrArg List.length ha
          rw [List.length_append, bt_length, bt_length] at hlen
          show bt _ = bt l
          unfold bt at ha ⊢
          rw [List.map_drop, ha, show l6.length - l.length = a.length from by omega, List.drop_left]
        · obtain ⟨O7, a1, a2, a3⟩ := HA7.out
          obtain ⟨O8, b1, b2, b3⟩ := h6
          have hs6 := hw5.size
          have hs7 := HT6.out.size
          refine After.turned0 (w2 := _) ⟨O7, a1, fun k hk hl => HO6.out k (a2 k hk (by omega)) (by omega), b3.step a3 (fun i hi e => HO6.out i e (by omega))⟩ (Turned.refl _ _).drew
      | over =>
        have HR := Lib.hid hr
        clear hr
        go_enter Try.func110, Try.ntmps110
        go_wp2_with (first
          | (go_at_call 144; (with_reducible refine (HOY.out _ T3).mono ?_); rintro e w4 ⟨rfl, T4⟩; have HT4 := Lib.hid (T3.trans T4); clear c0 c1 c2 c3 T3 T4)
          | (go_at_call 144; rw [← HW2.out]; (with_reducible refine (HOX.out _ (Turned.refl _ _)).mono ?_); rintro e w3 ⟨rfl, T3⟩; obtain ⟨c0, c1, c2, c3, _⟩ := cells4 (HBX.out _ T3).2)
          | (go_at_call 111; (with_reducible refine (markO111 (HH.out.turned0 (HT2.out.trans HT4.out))).mono ?_); rintro e w5 ⟨rfl, T5⟩; have HT5 := Lib.hid (HT4.out.trans T5); obtain ⟨x0, x1, x2, x3, _⟩ := cells4 (HBX.out _ HT5.out).1; obtain ⟨y0, y1, y2, y3, _⟩ := cells4 (HBX.out _ HT5.out).2; clear T5)
          | (go_at_call 153; (with_reducible refine (HALL.out _ HT5.out).mono ?_); rintro e w6 ⟨rfl, v6, st6, c6, O6, l6, hl6, u6, ho6, T6⟩; have HL6 := Lib.hid hl6; have HU6 := Lib.hid u6; have HO6 := Lib.hid ho6; have HT6 := Lib.hid T6; clear hl6 u6 ho6 T6)
          | (go_at_call 101; have hun := undoO101 (n := l.length) HU6.out.bo (by obtain ⟨a, ha⟩ := HL6.out; have := congrArg List.length ha; rw [List.length_append, bt_length, bt_length] at this; omega); (with_reducible refine hun.mono ?_); rintro e w7 ⟨rfl, A7⟩; have HA7 := Lib.hid A7; clear A7 hun))
        go_ret3
        rw [HR.out]
        have hw5 : Turned (fun _ => False) w ((w5.alloc (.cells #[.int .i64 x.kind, .int .i64 x.n, .string x.name, .slice x.at_.1 x.args.length x.at_.2, .int .i64 y.kind, .int .i64 y.n, .string y.name, .slice y.at_.1 y.args.length y.at_.2] 187)).alloc (.cells #[.pointer (some ⟨bb, 0, none⟩), .slice (some ⟨w5.heap.size, 0, none⟩) 1 1, .int .i64 0] 190)) := HTT.out _ _ HT5.out (((Turned.refl _ w5).alloc _).alloc _)
        have hsz : w.heap.size ≤ w5.heap.size := (HT2.out.trans HT5.out).size
        have h6 := both_after hw5 hw5 (by omega) (fun g hg => by (simp [Value.ownBlock] at hg; omega)) HU6.out HO6.out HT6.out
        refine ⟨rfl, l6.drop (l6.length - l.length), ?_, ?_⟩
        · obtain ⟨a, ha⟩ := HL6.out
          have hlen := congrArg List.length ha
          rw [List.length_append, bt_length, bt_length] at hlen
          show bt _ = bt l
          unfold bt at ha ⊢
          rw [List.map_drop, ha, show l6.length - l.length = a.length from by omega, List.drop_left]
        · obtain ⟨O7, a1, a2, a3⟩ := HA7.out
          obtain ⟨O8, b1, b2, b3⟩ := h6
          have hs6 := hw5.size
          have hs7 := HT6.out.size
          refine ⟨O7, a1, fun k hk hl => HO6.out k (a2 k hk (by omega)) (by omega), b3.step a3 (fun i hi e => HO6.out i e (by omega))⟩
end
end Go.Proofs.Ytoihjobdfjajfaa
namespace Go.Proofs.Ytoihjobdfjajfaa
set_option linter.unusedVariables false
set_option linter.unusedSimpArgs false
open Go.RowKit Go.Maps
theorem wholeE_cases (m : Nat) (l : Tm.Trail) (t : Tm Unit) : wholeE m l t = 0 ∨ wholeE m l t = 1 ∨ wholeE m l t = 12 := by
  unfold wholeE
  split
  · split
    · exact .inl rfl
    · exact .inr (.inr rfl)
  · exact .inr (.inl rfl)
theorem wholeE_ok {m : Nat} {l : Tm.Trail} {t : Tm Unit} (h : wholeE m l t = 0) : Tm.ownB m t = true ∧ Tm.wholeB l t = true := by
  unfold wholeE at h
  split at h
  · rename_i h1
    split at h
    · rename_i h2; exact ⟨h1, h2⟩
    · cases h
  · cases h
structure WholeQ (m : Nat) (l : Tm.Trail) (u : LT) : Prop where
  good : goodB u.bare = true
  free : ∀ v ∈ u.vars, 0 ≤ v ∧ v < (m : Int) ∧ v ∉ Tm.dom l
  again : wholeE m l u.bare = 0
  same : wholeT m l u.bare = u.bare
theorem wholeQ {m : Nat} {l : Tm.Trail} {t : Tm Unit} {u : LT} (hl : Tm.okT m l) (h : wholeE m l t = 0) (hu : u.bare = wholeT m l t) : WholeQ m l u := by
  obtain ⟨h1, h2⟩ := wholeE_ok h
  have e : u.bare = Tm.img l t := by rw [hu]; unfold wholeT; rw [h]; rfl
  have hw := Tm.whole_good hl h1 h2
  obtain ⟨i1, i2⟩ := Tm.whole_whole hl h1 h2
  have ha : wholeE m l u.bare = 0 := by unfold wholeE; rw [e, if_pos hw, if_pos i2]
  refine ⟨by rw [e]; exact (Tm.ownB_iff.1 hw).1, fun v hv => ?_, ha, ?_⟩
  · rw [← Tm.vars_bare, e] at hv
    obtain ⟨x, hx, hk, rfl⟩ := (Tm.vars_mem v).1 hv
    have hg := Tm.good_ones' (Tm.ownB_iff.1 hw).1 x hx
    rw [goodOneB_0 x hk] at hg
    simp only [Bool.and_eq_true, decide_eq_true_eq] at hg
    exact ⟨hg.1, (Tm.ownB_iff.1 hw).2 _ ⟨x, hx, hk, rfl⟩, Tm.img_vars_free hl h1 hv⟩
  · unfold wholeT; rw [ha, e]; exact i1
theorem good_slimB {t : LT} (h : goodB t.bare = true) : slim t := by
  intro x hx
  have h1 := Tm.good_ones' h x.bare (by rw [Tm.flat_bare]; exact List.mem_map_of_mem hx)
  rw [goodOneB_bare] at h1
  by_cases ha : x.args = []
  · rw [ha]; exact Nat.zero_le _
  · have := (Tm.one_args h1 ha).2.2; omega
theorem wholeVal {p O : Nat → Prop} {bb m : Nat} {l : TL} {w : World} {t : LT} {E : Int} (h : BO p bb O m l w) (ht : t.In p w) (hs : slim t) (hE : wholeE m (bt l) t.bare = E) :
    Calls Try.prog 89 #[.pointer (some ⟨bb, 0, none⟩), .agg #[.int .i64 t.kind, .int .i64 t.n, .string t.name, .slice t.at_.1 t.args.length t.at_.2]] w fun e w' => ∃ u : LT, e = .returned (.tuple #[.agg #[.int .i64 u.kind, .int .i64 u.n, .string u.name, .slice u.at_.1 u.args.length u.at_.2], .int .i64 E]) ∧ u.bare = wholeT m (bt l) t.bare ∧ u.In (fun k => p k ∨ w.heap.size ≤ k) w' ∧ Turned (fun _ => False) w w' := by
  have := wholeO89 h ht hs
  rw [LT.val_eq, hE] at this
  exact this.mono fun e w' ⟨u, h1, h2⟩ => ⟨u, by rw [h1, LT.val_eq], h2⟩
def BLoop (N bb m : Nat) (l : TL) (w1 wr : World) : Prop :=
  ∃ O, BO (fun k => k < N) bb O m l wr ∧ (∀ k, O k → N ≤ k) ∧ Turned (fun _ => False) w1 wr
theorem BLoop.step {N bb m m' : Nat} {l l' : TL} {w1 wr w' : World} {O : Nat → Prop} (hN : N = w1.heap.size) (h : BO (fun k => k < N) bb O m l wr) (hO : ∀ k, O k → N ≤ k) (T : Turned (fun _ => False) w1 wr) (ha : After (fun k => k < N) bb O m' l' wr w') : BLoop N bb m' l' w1 w' := by
  obtain ⟨O', a1, a2, a3⟩ := ha
  refine ⟨O', a1, fun k hk => ?_, T.step a3 (fun i hi e => by have := hO i e; omega)⟩
  rcases Nat.lt_or_ge k wr.heap.size with h1 | h1
  · exact hO k (a2 k hk h1)
  · have := T.size; omega
end Go.Proofs.Ytoihjobdfjajfaa
namespace Go.Proofs.Ytoihjobdfjajfaa
open Go.RowKit Go.Maps
set_option linter.unusedVariables false
set_option linter.unusedSimpArgs false
theorem bothVal {p O : Nat → Prop} {bb m : Nat} {l : TL} {w : World} {x y : LT} {ok : Bool} {c e : Int} {tr : Tm.Trail} (h : BO p bb O m l w) (hx : x.In p w) (sx : slim x) (hy : y.In p w) (sy : slim y) (hR : bothR m (bt l) x.bare y.bare = (ok, c, e, tr)) :
    Calls Try.prog 110 #[.pointer (some ⟨bb, 0, none⟩), .agg #[.int .i64 x.kind, .int .i64 x.n, .string x.name, .slice x.at_.1 x.args.length x.at_.2], .agg #[.int .i64 y.kind, .int .i64 y.n, .string y.name, .slice y.at_.1 y.args.length y.at_.2]] w fun E w' => E = .returned (.tuple #[.bool ok, .int .i64 c, .int .i64 e]) ∧ ∃ l2, bt l2 = tr ∧ After p bb O m l2 w w' := by
  have := bothO110 h hx sx hy sy
  rw [LT.val_eq, LT.val_eq, hR] at this
  exact this
end Go.Proofs.Ytoihjobdfjajfaa
namespace Go.Proofs.Ytoihjobdfjajfaa
open Go.RowKit Go.Maps
set_option linter.unusedVariables false
set_option linter.unusedSimpArgs false
namespace Tm
theorem allEq_swap {θ : Int → Tm Unit} {x y : Tm Unit} : allEq θ [(x, y)] ↔ allEq θ [(y, x)] := by
  unfold allEq
  simp only [List.mem_singleton, forall_eq]
  exact ⟨fun h => h.symm, fun h => h.symm⟩
end Tm
section
variable {m : Nat} (hm : m ≤ 65536) {x y : Tm Unit} {c1 c2 e1 e2 : Int} {t1 t2 : Tm.Trail}
include hm
theorem both_own {ok : Bool} (h : bothR m [] x y = (ok, c1, 0, t1)) : Tm.ownB m x = true ∧ Tm.ownB m y = true ∧ Tm.UniOk m [] 2000 [(x, y)] (Tm.unify [] 2000 [(x, y)]) ∧ (ok = true ↔ ∃ q, Tm.unify [] 2000 [(x, y)] = .ok t1 q) ∧ (ok = false → t1 = [] ∧ ∃ q, Tm.unify [] 2000 [(x, y)] = .no q) := by
  unfold bothR at h
  split at h
  · rename_i h1
    have hu : Tm.UniOk m [] 2000 [(x, y)] (Tm.unify [] 2000 [(x, y)]) := Tm.unify_spec hm _ [] 2000 [(x, y)] trivial (fun p hp => by rw [List.mem_singleton] at hp; rw [hp]; exact h1) _ rfl
    refine ⟨h1.1, h1.2, hu, ?_⟩
    clear hu
    revert h
    cases Tm.unify [] 2000 [(x, y)] with
    | ok l q =>
      intro h
      simp only [Prod.mk.injEq] at h
      obtain ⟨rfl, _, _, rfl⟩ := h
      exact ⟨⟨fun _ => ⟨q, rfl⟩, fun _ => rfl⟩, fun e => by cases e⟩
    | no q =>
      intro h
      simp only [Prod.mk.injEq] at h
      obtain ⟨rfl, _, _, rfl⟩ := h
      exact ⟨⟨fun e => (by cases e), fun ⟨q, e⟩ => by cases e⟩, fun _ => ⟨rfl, q, rfl⟩⟩
    | over =>
      intro h
      simp only [Prod.mk.injEq] at h
      obtain ⟨_, _, h, _⟩ := h
      cases h
  · simp only [Prod.mk.injEq] at h
    obtain ⟨_, _, h, _⟩ := h
    cases h
theorem both_same {p q : Bool} (h1 : bothR m [] x y = (p, c1, 0, t1)) (h2 : bothR m [] y x = (q, c2, 0, t2)) : p = q := by
  obtain ⟨_, _, u1, a1, b1⟩ := both_own hm h1
  obtain ⟨_, _, u2, a2, b2⟩ := both_own hm h2
  cases p with
  | true =>
    cases q with
    | true => rfl
    | false =>
      obtain ⟨k1, g1⟩ := a1.1 rfl
      obtain ⟨_, k2, g2⟩ := b2 rfl
      rw [g1] at u1
      rw [g2] at u2
      obtain ⟨o1, _, _, s1⟩ := u1
      exact absurd (Tm.allEq_swap.1 ((s1 _).1 (Tm.sig_solves o1)).2) (u2 _ (fun b hb => by cases hb))
  | false =>
    cases q with
    | false => rfl
    | true =>
      obtain ⟨k2, g2⟩ := a2.1 rfl
      obtain ⟨_, k1, g1⟩ := b1 rfl
      rw [g1] at u1
      rw [g2] at u2
      obtain ⟨o2, _, _, s2⟩ := u2
      exact absurd (Tm.allEq_swap.1 ((s2 _).1 (Tm.sig_solves o2)).2) (u1 _ (fun b hb => by cases hb))
theorem both_alike (h1 : bothR m [] x y = (true, c1, 0, t1)) (h2 : bothR m [] y x = (true, c2, 0, t2)) : Tm.okT m t1 ∧ Tm.okT m t2 ∧ Tm.img t1 x = Tm.img t1 y ∧ Tm.plainT (Tm.img t1 x) = Tm.plainT (Tm.img t2 x) := by
  obtain ⟨ox, oy, u1, a1, _⟩ := both_own hm h1
  obtain ⟨_, _, u2, a2, _⟩ := both_own hm h2
  obtain ⟨k1, g1⟩ := a1.1 rfl
  obtain ⟨k2, g2⟩ := a2.1 rfl
  rw [g1] at u1
  rw [g2] at u2
  obtain ⟨o1, _, _, s1⟩ := u1
  obtain ⟨o2, _, _, s2⟩ := u2
  have e1 := (s1 _).1 (Tm.sig_solves o1)
  have e2 := (s2 _).1 (Tm.sig_solves o2)
  have f1 : Tm.solves (Tm.sig t1) t2 := (s2 _).2 ⟨e1.1, Tm.allEq_swap.1 e1.2⟩
  have f2 : Tm.solves (Tm.sig t2) t1 := (s1 _).2 ⟨e2.1, Tm.allEq_swap.1 e2.2⟩
  have lx := good_leafy (Tm.ownB_iff.1 ox).1
  refine ⟨o1, o2, e1.2 (x, y) (List.mem_singleton.2 rfl), ?_⟩
  refine Tm.more_alike (Tm.img_leafy o1 lx) (Tm.img_leafy o2 lx) ((Tm.moreS_iff _ _).2 ⟨Tm.sig t2, Tm.solves_img f2 x⟩) ((Tm.moreS_iff _ _).2 ⟨Tm.sig t1, Tm.solves_img f1 x⟩)
end
theorem plain_size {a b : Tm Unit} (ha : Tm.leafy a) (hb : Tm.leafy b) (h : Tm.plainT a = Tm.plainT b) : a.size = b.size ∧ a.depth = b.depth := by
  have h1 := congrArg Tm.size h
  have h2 := congrArg Tm.depth h
  unfold Tm.plainT Tm.fromT at h1 h2
  rw [Tm.size_ren _ ha, Tm.size_ren _ hb] at h1
  rw [Tm.depth_ren _ a ha, Tm.depth_ren _ b hb] at h2
  exact ⟨h1, h2⟩
end Go.Proofs.Ytoihjobdfjajfaa
namespace Go.Proofs.Ytoihjobdfjajfaa
open Go.RowKit Go.Maps
set_option linter.unusedVariables false
set_option linter.unusedSimpArgs false
def ownD (wb : Nat) (tv iv rv : Value) (k : Nat) : Prop := k = wb ∨ tv.ownBlock = some k ∨ iv.ownBlock = some k ∨ rv.ownBlock = some k
structure DB (p : Nat → Prop) (wb : Nat) (tv iv rv : Value) (us : List LT) (is : List Bool) (tr : List Int) (w : World) : Prop where
  b : w.heap[wb]? = some (.cells #[tv, iv, rv] 113 (0, 0))
  row : Row w 41 4 tv us.length (us.flatMap LT.cells)
  bools : Row w 4 1 iv is.length (is.map Value.bool)
  trail : Row w 2 1 rv tr.length (tr.map (Value.int .i64))
  same : is.length = us.length
  ins : LT.Ins p w us
  most : us.length ≤ 65536
  ne : tv.ownBlock ≠ some wb ∧ iv.ownBlock ≠ some wb ∧ rv.ownBlock ≠ some wb ∧ (∀ k, tv.ownBlock = some k → iv.ownBlock ≠ some k ∧ rv.ownBlock ≠ some k) ∧ ∀ k, iv.ownBlock = some k → rv.ownBlock ≠ some k
  sep : ∀ k, p k → k < w.heap.size ∧ ¬ ownD wb tv iv rv k
section
variable {p : Nat → Prop} {wb : Nat} {tv iv rv : Value} {us : List LT} {is : List Bool} {tr : List Int} {w w' : World}
theorem DB.own_lt (h : DB p wb tv iv rv us is tr w) : ∀ k, ownD wb tv iv rv k → k < w.heap.size := by
  rintro k (rfl | hk | hk | hk)
  · exact (Array.getElem?_eq_some_iff.1 h.b).1
  · exact h.row.lt k hk
  · exact h.bools.lt k hk
  · exact h.trail.lt k hk
theorem DB.turned {S : Nat → Prop} (h : DB p wb tv iv rv us is tr w) (ht : Turned S w w') (hS : ∀ k, k < w.heap.size → S k → ¬ ownD wb tv iv rv k ∧ ¬ p k) : DB p wb tv iv rv us is tr w' := by
  have hb := (Array.getElem?_eq_some_iff.1 h.b).1
  exact ⟨(ht.block _ hb (fun f => (hS _ hb f).1 (.inl rfl))).trans h.b,
    h.row.turned ht (fun k hk f => (hS _ (h.row.lt k hk) f).1 (.inr (.inl hk))),
    h.bools.turned ht (fun k hk f => (hS _ (h.bools.lt k hk) f).1 (.inr (.inr (.inl hk)))),
    h.trail.turned ht (fun k hk f => (hS _ (h.trail.lt k hk) f).1 (.inr (.inr (.inr hk)))), h.same,
    LT.Ins.turned ht (fun k hk hq f => (hS k hk f).2 hq) (fun _ _ q => q) _ h.ins, h.most, h.ne, fun k hk => ⟨Nat.lt_of_lt_of_le (h.sep k hk).1 ht.size, (h.sep k hk).2⟩⟩
theorem DB.turned0 (h : DB p wb tv iv rv us is tr w) (ht : Turned (fun _ => False) w w') : DB p wb tv iv rv us is tr w' :=
  h.turned ht (fun _ _ f => f.elim)
theorem DB.none {w : World} (hp : ∀ k, p k → k < w.heap.size) : DB p w.heap.size (.slice none 0 0) (.slice none 0 0) (.slice none 0 0) [] [] [] (w.alloc (.cells #[.slice none 0 0, .slice none 0 0, .slice none 0 0] 113)) := by
  refine ⟨heap_alloc_new w _, Row.nil _ _ _, Row.nil _ _ _, Row.nil _ _ _, rfl, trivial, Nat.zero_le _, ⟨by simp [Value.ownBlock], by simp [Value.ownBlock], by simp [Value.ownBlock], fun k hk => by simp [Value.ownBlock] at hk, fun k hk => by simp [Value.ownBlock] at hk⟩, fun k hk => ?_⟩
  have := hp k hk
  refine ⟨by simp; omega, ?_⟩
  rintro (e | e | e | e)
  · omega
  · simp [Value.ownBlock] at e
  · simp [Value.ownBlock] at e
  · simp [Value.ownBlock] at e
end
end Go.Proofs.Ytoihjobdfjajfaa
namespace Go.Proofs.Ytoihjobdfjajfaa
open Go.RowKit Go.Maps
set_option linter.unusedVariables false
set_option linter.unusedSimpArgs false
section
variable {p : Nat → Prop} {wb : Nat} {tv iv rv tv' iv' : Value} {us : List LT} {is : List Bool} {tr : List Int} {w w' : World}
theorem DB.fresh (h : DB p wb tv iv rv us is tr w) (hm : us.length < 65536) (ht : Turned (fun k => k = wb ∨ tv.ownBlock = some k ∨ iv.ownBlock = some k) w w') (hb : w'.heap[wb]? = some (.cells #[tv', iv', rv] 113 (0, 0)))
    (hr : Row w' 41 4 tv' (us.length + 1) (us.flatMap LT.cells ++ (leaf 0 0 ByteArray.empty : LT).cells)) (hi : Row w' 4 1 iv' (is.length + 1) (is.map Value.bool ++ [.bool false]))
    (ho : tv'.ownBlock = tv.ownBlock ∨ ∀ k, tv'.ownBlock = some k → w.heap.size ≤ k) (ho2 : iv'.ownBlock = iv.ownBlock ∨ ∀ k, iv'.ownBlock = some k → w.heap.size ≤ k) (hd : ∀ k, tv'.ownBlock = some k → iv'.ownBlock ≠ some k) :
    DB p wb tv' iv' rv (us ++ [leaf 0 0 ByteArray.empty]) (is ++ [false]) tr w' := by
  obtain ⟨n1, n2, n3, n4, n5⟩ := h.ne
  have hbl := (Array.getElem?_eq_some_iff.1 h.b).1
  have old : ∀ {a a' : Value}, (a'.ownBlock = a.ownBlock ∨ ∀ k, a'.ownBlock = some k → w.heap.size ≤ k) → ∀ q, q < w.heap.size → a'.ownBlock = some q → a.ownBlock = some q := fun ho q hq e => by
    rcases ho with ho | ho
    · exact ho ▸ e
    · have := ho q e; omega
  have hown : ∀ k, k < w.heap.size → ownD wb tv' iv' rv k → ownD wb tv iv rv k := by
    rintro k hk (rfl | hq | hq | hq)
    · exact .inl rfl
    · exact .inr (.inl (old ho k hk hq))
    · exact .inr (.inr (.inl (old ho2 k hk hq)))
    · exact .inr (.inr (.inr hq))
  refine ⟨hb, ?_, ?_, h.trail.turned ht (fun k hk e => ?_), by simp [h.same], (LT.ins_append _ _).2 ⟨LT.Ins.turned ht (fun k hk hq e => ?_) (fun _ _ q => q) _ h.ins, ?_⟩, by simp; omega, ⟨fun e => n1 (old ho _ hbl e), fun e => n2 (old ho2 _ hbl e), n3, fun k hk => ⟨hd k hk, fun e => ?_⟩, fun k hk e => ?_⟩, fun k hk => ⟨Nat.lt_of_lt_of_le (h.sep k hk).1 ht.size, fun c => (h.sep k hk).2 (hown k (h.sep k hk).1 c)⟩⟩
  · rw [List.length_append, List.flatMap_append]
    simpa using hr
  · rw [List.length_append, List.map_append]
    simpa using hi
  · rcases e with e | e | e
    · exact n3 (e ▸ hk)
    · exact (n4 k e).2 hk
    · exact n5 k e hk
  · refine (h.sep k hq).2 ?_
    rcases e with e | e | e
    · exact .inl e
    · exact .inr (.inl e)
    · exact .inr (.inr (.inl e))
  · exact ⟨var_in (i64_lit 0 (by omega)), trivial⟩
  · have hl := h.trail.lt k e
    exact (n4 k (old ho k hl hk)).2 e
  · have hl := h.trail.lt k e
    exact n5 k (old ho2 k hl hk) e
end
end Go.Proofs.Ytoihjobdfjajfaa
namespace Go.Proofs.Ytoihjobdfjajfaa
open Go.RowKit Go.Maps
set_option linter.unusedVariables false
set_option linter.unusedSimpArgs false
structure Chain (e : TypeId) (size : Nat) (tv : Value) (n : Nat) (xs news : List Value) (i j : Nat) (w0 : World) (hs : Hist) (W : World) : Prop where
  old : (∀ v, (j, v) ∉ hs) → Row W e size tv n xs
  one : ∀ v, (i, v) ∈ hs → (∀ x, (j, x) ∉ hs) → ∃ S, v = .slice (some ⟨S, 0, none⟩) 1 1 ∧ w0.heap.size ≤ S ∧ W.heap[S]? = some (.cells news.toArray e (0, 0))
  new : ∀ v, (j, v) ∈ hs → ∃ g cap, v = .slice (some ⟨g, 0, none⟩) (n + 1) cap ∧ Row W e size v (n + 1) (xs ++ news) ∧ (some g = tv.ownBlock ∨ w0.heap.size ≤ g)
section
variable {e : TypeId} {size : Nat} {tv : Value} {n : Nat} {xs news : List Value} {i j : Nat} {w0 W W' : World} {hs : Hist}
theorem Chain.start (h : Row w0 e size tv n xs) (T : Turned (fun _ => False) w0 W) : Chain e size tv n xs news i j w0 [] W :=
  ⟨fun _ => h.turned0 T, fun v h => (List.not_mem_nil h).elim, fun v h => (List.not_mem_nil h).elim⟩
theorem Chain.turned {S : Nat → Prop} (h : Chain e size tv n xs news i j w0 hs W) (T : Turned S W W') (hS : ∀ k, S k → k < w0.heap.size ∧ tv.ownBlock ≠ some k) : Chain e size tv n xs news i j w0 hs W' := by
  refine ⟨fun hn => (h.old hn).turned T (fun k hk c => (hS k c).2 hk), fun v hv hn => ?_, fun v hv => ?_⟩
  · obtain ⟨B, h1, h2, h3⟩ := h.one v hv hn
    exact ⟨B, h1, h2, (T.block B (Array.getElem?_eq_some_iff.1 h3).1 (fun c => by have := (hS B c).1; omega)).trans h3⟩
  · obtain ⟨g, cap, h1, h2, h3⟩ := h.new v hv
    refine ⟨g, cap, h1, h2.turned T (fun k hk c => ?_), h3⟩
    rw [h1] at hk
    simp only [Value.ownBlock, Option.some.injEq] at hk
    subst hk
    rcases h3 with h3 | h3
    · exact (hS _ c).2 h3.symm
    · have := (hS _ c).1; omega
theorem Chain.turned0 (h : Chain e size tv n xs news i j w0 hs W) (T : Turned (fun _ => False) W W') : Chain e size tv n xs news i j w0 hs W' := h.turned T (fun _ f => f.elim)
theorem Chain.other {q : Nat} {x : Value} (h : Chain e size tv n xs news i j w0 hs W) (hi : q ≠ i) (hj : q ≠ j) : Chain e size tv n xs news i j w0 (hs ++ [(q, x)]) W := by
  have ne : ∀ {a : Nat} {v : Value}, a ≠ q → (a, v) ∈ hs ++ [(q, x)] → (a, v) ∈ hs := fun ha hm => by
    rcases mem_snoc hm with hm | ⟨c, _⟩
    · exact hm
    · exact absurd c ha
  exact ⟨fun hn => h.old (fun v c => hn v (List.mem_append_left _ c)), fun v hv hn => h.one v (ne hi.symm hv) (fun x c => hn x (List.mem_append_left _ c)), fun v hv => h.new v (ne hj.symm hv)⟩
theorem Chain.laid (h : Chain e size tv n xs news i j w0 hs W) (hw : w0.heap.size ≤ W.heap.size) (hij : i ≠ j) (hno : ∀ v, (i, v) ∉ hs) : Chain e size tv n xs news i j w0 (hs ++ [(i, .slice (some ⟨W.heap.size, 0, none⟩) 1 1)]) (W.alloc (.cells news.toArray e)) := by
  have T : Turned (fun _ => False) W (W.alloc (.cells news.toArray e)) := (Turned.refl _ W).alloc _
  have hk := h.turned0 T
  refine ⟨fun hn => hk.old (fun v c => hn v (List.mem_append_left _ c)), fun v hv hn => ?_, fun v hv => ?_⟩
  · rcases mem_snoc hv with hm | ⟨_, c⟩
    · exact absurd hm (hno v)
    · exact ⟨_, c, hw, heap_alloc_new W _⟩
  · rcases mem_snoc hv with hm | ⟨c, _⟩
    · exact hk.new v hm
    · exact absurd c.symm hij
theorem Chain.appended {g cap : Nat} (hno : ∀ v, (j, v) ∉ hs) (hr : Row W' e size (.slice (some ⟨g, 0, none⟩) (n + 1) cap) (n + 1) (xs ++ news)) (hg : some g = tv.ownBlock ∨ w0.heap.size ≤ g) : Chain e size tv n xs news i j w0 (hs ++ [(j, .slice (some ⟨g, 0, none⟩) (n + 1) cap)]) W' := by
  refine ⟨fun hn => absurd (List.mem_append_right _ (List.mem_singleton.2 rfl)) (hn _), fun v hv hn => absurd (List.mem_append_right _ (List.mem_singleton.2 rfl)) (hn _), fun v hv => ?_⟩
  rcases mem_snoc hv with hm | ⟨_, c⟩
  · exact absurd hm (hno v)
  · subst c
    exact ⟨g, cap, rfl, hr, hg⟩
end
end Go.Proofs.Ytoihjobdfjajfaa
namespace Go.Proofs.Ytoihjobdfjajfaa
open Go.RowKit Go.Maps
set_option linter.unusedVariables false
set_option linter.unusedSimpArgs false
abbrev zc : List Value := (leaf 0 0 ByteArray.empty : LT).cells
structure FsR (wb : Nat) (tv iv rv : Value) (us : List LT) (is : List Bool) (w0 : World) (hs : Hist) (W : World) : Prop where
  t : Turned (fun k => k = wb ∨ tv.ownBlock = some k ∨ iv.ownBlock = some k) w0 W
  ct : Chain 41 4 tv us.length (us.flatMap LT.cells) zc 7 8 w0 hs W
  ci : Chain 4 1 iv is.length (is.map Value.bool) [.bool false] 13 14 w0 hs W
  blk : ∃ a b, W.heap[wb]? = some (.cells #[a, b, rv] 113 (0, 0)) ∧ ((∀ q, (17, q) ∉ hs) → a = tv) ∧ (∀ q, (17, q) ∈ hs → (8, a) ∈ hs) ∧ ((∀ q, (20, q) ∉ hs) → b = iv) ∧ ∀ q, (20, q) ∈ hs → (14, b) ∈ hs
section
variable {p : Nat → Prop} {wb : Nat} {tv iv rv : Value} {us : List LT} {is : List Bool} {tr : List Int} {w0 W W' : World} {hs : Hist}
theorem FsR.start (h : DB p wb tv iv rv us is tr w0) (T : Turned (fun _ => False) w0 W) : FsR wb tv iv rv us is w0 [] W := by
  have h' := h.turned0 T
  exact ⟨T.mono (fun _ _ f => f.elim), Chain.start h.row T, Chain.start h.bools T, tv, iv, h'.b, fun _ => rfl, fun q hq => (List.not_mem_nil hq).elim, fun _ => rfl, fun q hq => (List.not_mem_nil hq).elim⟩
theorem FsR.turned0 (h : FsR wb tv iv rv us is w0 hs W) (T : Turned (fun _ => False) W W') : FsR wb tv iv rv us is w0 hs W' := by
  obtain ⟨a, b, h1, h2, h3, h4, h5⟩ := h.blk
  exact ⟨h.t.trans (T.mono (fun _ _ f => f.elim)), h.ct.turned0 T, h.ci.turned0 T, a, b, (T.block wb (Array.getElem?_eq_some_iff.1 h1).1 (fun f => f)).trans h1, h2, h3, h4, h5⟩
theorem blk_other {q : Nat} {x : Value} (h7 : q ≠ 17) (h2 : q ≠ 20) (h : ∃ a b, W.heap[wb]? = some (.cells #[a, b, rv] 113 (0, 0)) ∧ ((∀ q, (17, q) ∉ hs) → a = tv) ∧ (∀ q, (17, q) ∈ hs → (8, a) ∈ hs) ∧ ((∀ q, (20, q) ∉ hs) → b = iv) ∧ ∀ q, (20, q) ∈ hs → (14, b) ∈ hs) :
    ∃ a b, W.heap[wb]? = some (.cells #[a, b, rv] 113 (0, 0)) ∧ ((∀ y, (17, y) ∉ hs ++ [(q, x)]) → a = tv) ∧ (∀ y, (17, y) ∈ hs ++ [(q, x)] → (8, a) ∈ hs ++ [(q, x)]) ∧ ((∀ y, (20, y) ∉ hs ++ [(q, x)]) → b = iv) ∧ ∀ y, (20, y) ∈ hs ++ [(q, x)] → (14, b) ∈ hs ++ [(q, x)] := by
  have ne : ∀ {a : Nat} {v : Value}, a ≠ q → (a, v) ∈ hs ++ [(q, x)] → (a, v) ∈ hs := fun ha hm => by
    rcases mem_snoc hm with hm | ⟨c, _⟩
    · exact hm
    · exact absurd c ha
  obtain ⟨a, b, g1, g2, g3, g4, g5⟩ := h
  exact ⟨a, b, g1, fun hn => g2 (fun y c => hn y (List.mem_append_left _ c)), fun y hy => List.mem_append_left _ (g3 y (ne h7.symm hy)), fun hn => g4 (fun y c => hn y (List.mem_append_left _ c)), fun y hy => List.mem_append_left _ (g5 y (ne h2.symm hy))⟩
theorem FsR.laidT (h : FsR wb tv iv rv us is w0 hs W) (hno : ∀ v, (7, v) ∉ hs) : FsR wb tv iv rv us is w0 (hs ++ [(7, .slice (some ⟨W.heap.size, 0, none⟩) 1 1)]) (W.alloc (.cells zc.toArray 41)) := by
  have T : Turned (fun _ => False) W (W.alloc (.cells zc.toArray 41)) := (Turned.refl _ W).alloc _
  have h' := h.turned0 T
  exact ⟨h'.t, h.ct.laid h.t.size (by decide) hno, h'.ci.other (by decide) (by decide), blk_other (by decide) (by decide) h'.blk⟩
theorem FsR.laidI (h : FsR wb tv iv rv us is w0 hs W) (hno : ∀ v, (13, v) ∉ hs) : FsR wb tv iv rv us is w0 (hs ++ [(13, .slice (some ⟨W.heap.size, 0, none⟩) 1 1)]) (W.alloc (.cells #[.bool false] 4)) := by
  have T : Turned (fun _ => False) W (W.alloc (.cells #[.bool false] 4)) := (Turned.refl _ W).alloc _
  have h' := h.turned0 T
  exact ⟨h'.t, h'.ct.other (by decide) (by decide), h.ci.laid h.t.size (by decide) hno, blk_other (by decide) (by decide) h'.blk⟩
end
end Go.Proofs.Ytoihjobdfjajfaa
namespace Go.Proofs.Ytoihjobdfjajfaa
open Go.RowKit Go.Maps
set_option linter.unusedVariables false
set_option linter.unusedSimpArgs false
section
variable {p : Nat → Prop} {wb : Nat} {tv iv rv : Value} {us : List LT} {is : List Bool} {tr : List Int} {w0 W W' : World} {hs : Hist}
theorem FsR.appT {g cap : Nat} (hd : DB p wb tv iv rv us is tr w0) (h : FsR wb tv iv rv us is w0 hs W) (hno : ∀ v, (8, v) ∉ hs) (T : Turned (fun k => tv.ownBlock = some k) W W') (hr : Row W' 41 4 (.slice (some ⟨g, 0, none⟩) (us.length + 1) cap) (us.length + 1) (us.flatMap LT.cells ++ zc)) (hg : some g = tv.ownBlock ∨ g = W.heap.size) :
    FsR wb tv iv rv us is w0 (hs ++ [(8, .slice (some ⟨g, 0, none⟩) (us.length + 1) cap)]) W' := by
  obtain ⟨n1, n2, n3, n4, n5⟩ := hd.ne
  obtain ⟨a, b, h1, h2, h3, h4, h5⟩ := h.blk
  refine ⟨h.t.step T (fun i hi e => .inr (.inl e)), Chain.appended hno hr (hg.imp_right fun e => by have := h.t.size; omega), (h.ci.turned T (fun k hk => ⟨hd.row.lt k hk, (n4 k hk).1⟩)).other (by decide) (by decide), ?_⟩
  exact blk_other (by decide) (by decide) ⟨a, b, (T.block wb (Array.getElem?_eq_some_iff.1 h1).1 n1).trans h1, h2, h3, h4, h5⟩
theorem FsR.appI {g cap : Nat} (hd : DB p wb tv iv rv us is tr w0) (h : FsR wb tv iv rv us is w0 hs W) (hno : ∀ v, (14, v) ∉ hs) (T : Turned (fun k => iv.ownBlock = some k) W W') (hr : Row W' 4 1 (.slice (some ⟨g, 0, none⟩) (is.length + 1) cap) (is.length + 1) (is.map Value.bool ++ [.bool false])) (hg : some g = iv.ownBlock ∨ g = W.heap.size) :
    FsR wb tv iv rv us is w0 (hs ++ [(14, .slice (some ⟨g, 0, none⟩) (is.length + 1) cap)]) W' := by
  obtain ⟨n1, n2, n3, n4, n5⟩ := hd.ne
  obtain ⟨a, b, h1, h2, h3, h4, h5⟩ := h.blk
  refine ⟨h.t.step T (fun i hi e => .inr (.inr e)), (h.ct.turned T (fun k hk => ⟨hd.bools.lt k hk, fun c => (n4 k c).1 hk⟩)).other (by decide) (by decide), Chain.appended hno hr (hg.imp_right fun e => by have := h.t.size; omega), ?_⟩
  exact blk_other (by decide) (by decide) ⟨a, b, (T.block wb (Array.getElem?_eq_some_iff.1 h1).1 n2).trans h1, h2, h3, h4, h5⟩
theorem turned_cell (W : World) (g j : Nat) (v : Value) : Turned (fun k => k = g) W (W.setCell ⟨g, j, none⟩ v) :=
  (Turned.refl (fun k => k = g) W).setCell (p := ⟨g, j, none⟩) (.inr rfl) v
theorem FsR.stT {v x : Value} (hd : DB p wb tv iv rv us is tr w0) (h : FsR wb tv iv rv us is w0 hs W) (h8 : (8, v) ∈ hs) : FsR wb tv iv rv us is w0 (hs ++ [(17, x)]) (W.setCell ⟨wb, 0, none⟩ v) := by
  obtain ⟨n1, n2, n3, n4, n5⟩ := hd.ne
  obtain ⟨a, b, h1, h2, h3, h4, h5⟩ := h.blk
  have T := turned_cell W wb 0 v
  have hl := (Array.getElem?_eq_some_iff.1 hd.b).1
  have hset := heap_setCell_same W wb 0 _ 113 v h1
  refine ⟨h.t.step T (fun i hi e => .inl e), (h.ct.turned T (fun k hk => ⟨by omega, fun c => n1 (by rw [c, hk])⟩)).other (by decide) (by decide), (h.ci.turned T (fun k hk => ⟨by omega, fun c => n2 (by rw [c, hk])⟩)).other (by decide) (by decide), v, b, by simpa using hset, fun hn => absurd (List.mem_append_right _ (List.mem_singleton.2 rfl)) (hn x), fun q hq => List.mem_append_left _ h8, fun hn => h4 (fun q c => hn q (List.mem_append_left _ c)), fun q hq => List.mem_append_left _ (h5 q ?_)⟩
  rcases mem_snoc hq with hm | ⟨c, _⟩
  · exact hm
  · cases c
theorem FsR.stI {v x : Value} (hd : DB p wb tv iv rv us is tr w0) (h : FsR wb tv iv rv us is w0 hs W) (h14 : (14, v) ∈ hs) : FsR wb tv iv rv us is w0 (hs ++ [(20, x)]) (W.setCell ⟨wb, 1, none⟩ v) := by
  obtain ⟨n1, n2, n3, n4, n5⟩ := hd.ne
  obtain ⟨a, b, h1, h2, h3, h4, h5⟩ := h.blk
  have T := turned_cell W wb 1 v
  have hl := (Array.getElem?_eq_some_iff.1 hd.b).1
  have hset := heap_setCell_same W wb 1 _ 113 v h1
  refine ⟨h.t.step T (fun i hi e => .inl e), (h.ct.turned T (fun k hk => ⟨by omega, fun c => n1 (by rw [c, hk])⟩)).other (by decide) (by decide), (h.ci.turned T (fun k hk => ⟨by omega, fun c => n2 (by rw [c, hk])⟩)).other (by decide) (by decide), a, v, by simpa using hset, fun hn => h2 (fun q c => hn q (List.mem_append_left _ c)), fun q hq => List.mem_append_left _ (h3 q ?_), fun hn => absurd (List.mem_append_right _ (List.mem_singleton.2 rfl)) (hn x), fun q hq => List.mem_append_left _ h14⟩
  rcases mem_snoc hq with hm | ⟨c, _⟩
  · exact hm
  · cases c
theorem FsR.done (hd : DB p wb tv iv rv us is tr w0) (hm : us.length < 65536) (h : FsR wb tv iv rv us is w0 hs W) (hall : ∀ i ∈ [7, 8, 13, 14, 17, 20], ∃ v, (i, v) ∈ hs) : ∃ tv' iv', DB p wb tv' iv' rv (us ++ [leaf 0 0 ByteArray.empty]) (is ++ [false]) tr W ∧ Turned (fun k => k = wb ∨ tv.ownBlock = some k ∨ iv.ownBlock = some k) w0 W ∧ (tv'.ownBlock = tv.ownBlock ∨ ∀ k, tv'.ownBlock = some k → w0.heap.size ≤ k) ∧ (iv'.ownBlock = iv.ownBlock ∨ ∀ k, iv'.ownBlock = some k → w0.heap.size ≤ k) := by
  obtain ⟨a, b, h1, h2, h3, h4, h5⟩ := h.blk
  obtain ⟨q, hq⟩ := hall 17 (by simp)
  obtain ⟨r, hr⟩ := hall 20 (by simp)
  obtain ⟨g, cap, rfl, r1, g1⟩ := h.ct.new _ (h3 q hq)
  obtain ⟨g', cap', rfl, r2, g2⟩ := h.ci.new _ (h5 r hr)
  have o1 : (Value.slice (some ⟨g, 0, none⟩) (us.length + 1) cap).ownBlock = tv.ownBlock ∨ ∀ k, (Value.slice (some ⟨g, 0, none⟩) (us.length + 1) cap).ownBlock = some k → w0.heap.size ≤ k := by
    rcases g1 with g1 | g1
    · exact .inl (by simpa [Value.ownBlock] using g1)
    · exact .inr (fun k hk => by simp [Value.ownBlock] at hk; omega)
  have o2 : (Value.slice (some ⟨g', 0, none⟩) (is.length + 1) cap').ownBlock = iv.ownBlock ∨ ∀ k, (Value.slice (some ⟨g', 0, none⟩) (is.length + 1) cap').ownBlock = some k → w0.heap.size ≤ k := by
    rcases g2 with g2 | g2
    · exact .inl (by simpa [Value.ownBlock] using g2)
    · exact .inr (fun k hk => by simp [Value.ownBlock] at hk; omega)
  refine ⟨_, _, hd.fresh hm h.t h1 r1 r2 o1 o2 (fun k k1 k2 => ?_), h.t, o1, o2⟩
  simp only [Value.ownBlock, Option.some.injEq] at k1 k2
  subst k1
  subst k2
  rcases r1.2 with ⟨c, _⟩ | ⟨x, xc, cur, e1, e2, _⟩
  · cases c
  rcases r2.2 with ⟨c, _⟩ | ⟨y, yc, cur', f1, f2, _⟩
  · cases c
  injection e1 with e1; injection e1 with e1; injection e1 with e1
  injection f1 with f1; injection f1 with f1; injection f1 with f1
  subst e1
  rw [← f1, e2] at f2
  injection f2 with f2
  injection f2 with _ f2
  cases f2
end
end Go.Proofs.Ytoihjobdfjajfaa
namespace Go.Proofs.Ytoihjobdfjajfaa
open Go.RowKit Go.Maps
set_option linter.unusedVariables false
set_option linter.unusedSimpArgs false
theorem rec3b {w : World} {bb : Nat} {x y z : Value} {T : TypeId} (h : w.heap[bb]? = some (.cells #[x, y, z] T (0, 0))) :
    w.cell? ⟨bb, 0, none⟩ = some x ∧ w.cell? ⟨bb, 1, none⟩ = some y ∧ w.cell? ⟨bb, 2, none⟩ = some z ∧ w.frozen? ⟨bb, 0, none⟩ = false ∧ w.frozen? ⟨bb, 1, none⟩ = false ∧ w.frozen? ⟨bb, 2, none⟩ = false :=
  ⟨by rw [cell_of_row w bb 0 _ T (0, 0) h]; rfl, by rw [cell_of_row w bb 1 _ T (0, 0) h]; rfl, by rw [cell_of_row w bb 2 _ T (0, 0) h]; rfl, frozen_of_row w bb 0 _ T h, frozen_of_row w bb 1 _ T h, frozen_of_row w bb 2 _ T h⟩
theorem infoB4 : (Try.prog.info? 4).map (fun i => (i.zero, i.size, i.bytes)) = some (some (.bool false), 1, 1) := by kernel_rfl
section
variable {p : Nat → Prop} {wb : Nat} {tv iv rv : Value} {us : List LT} {is : List Bool} {tr : List Int} {w : World}
set_option maxRecDepth 100000 in
set_option maxHeartbeats 6400000 in
theorem fresh103 (h : DB p wb tv iv rv us is tr w) (hm : us.length < 65536) :
    Calls Try.prog 103 #[.pointer (some ⟨wb, 0, none⟩)] w fun e w' => e = .returned (.tuple #[.agg #[.int .i64 0, .int .i64 (us.length : Int), .string ByteArray.empty, .slice none 0 0], .bool true]) ∧ ∃ tv' iv', DB p wb tv' iv' rv (us ++ [leaf 0 0 ByteArray.empty]) (is ++ [false]) tr w' ∧ Turned (fun k => k = wb ∨ tv.ownBlock = some k ∨ iv.ownBlock = some k) w w' ∧ (tv'.ownBlock = tv.ownBlock ∨ ∀ k, tv'.ownBlock = some k → w.heap.size ≤ k) ∧ (iv'.ownBlock = iv.ownBlock ∨ ∀ k, iv'.ownBlock = some k → w.heap.size ≤ k) := by
  obtain ⟨i0, hi0, hz0, hz1, hz2⟩ := info_parts infoR
  obtain ⟨i1, hi1, hy0, hy1, hy2⟩ := info_parts infoB4
  obtain ⟨a, c, rfl⟩ := h.row.shape
  have hmx := h.row.max
  obtain ⟨w2, hw2⟩ : ∃ z, z = w.alloc (.cells #[.int .i64 0, .int .i64 0, .string ⟨#[]⟩, .slice none 0 0] 41) := ⟨_, rfl⟩
  have T2 : Turned (fun _ => False) w w2 := by rw [hw2]; exact (Turned.refl _ w).alloc _
  have hb2 : w2.heap[w.heap.size]? = some (.cells #[.int .i64 0, .int .i64 0, .string ⟨#[]⟩, .slice none 0 0] 41 (0, 0)) := by rw [hw2]; exact heap_alloc_new w _
  have hd2 := h.turned0 T2
  have hb3 := hd2.b
  rw [hw2] at hb3
  obtain ⟨d0, d1, d2, g0, g1, g2⟩ := rec3b hb3
  have H := Lib.hid h
  have H2 := Lib.hid hd2
  have HT2 := Lib.hid T2
  have HB2 := Lib.hid hb2
  have HW2 := Lib.hid hw2
  have hge : decide (65536 ≤ (us.length : Int)) = false := decide_eq_false (by omega)
  have HM := Lib.hid hm
  clear h hd2 T2 hb2 hb3 hm hw2
  go_enter Try.func103, Try.ntmps103
  go_wp2_with fail
  rw [← HW2.out]
  clear d0 d1 d2 g0 g1 g2
  refine wp_region_k [11, 12, 13, 14, 15, 16, 17, 18, 19, 20, 21, 22, 23, 24, 25, 26, 27, 28, 29] [7, 8, 13, 14, 17, 20] [(18, 7), (19, 8), (24, 13), (25, 14)] (fun dd vv => (match dd with | 11 => vv = .pointer (some ⟨wb, 0, none⟩) | 12 => vv = .pointer (some ⟨wb, 0, none⟩) | 13 => vv = .pointer (some ⟨wb, 0, none⟩) | 14 => vv = .pointer (some ⟨wb, 0, none⟩) | 15 => vv = .pointer (some ⟨wb, 0, none⟩) | 16 => vv = .slice a us.length c | 17 => vv = .agg #[.int .i64 0, .int .i64 0, .string ⟨#[]⟩, .slice none 0 0] | 20 => vv = .pointer (some ⟨wb, 0, none⟩) | 21 => vv = .pointer (some ⟨wb, 0, none⟩) | 22 => vv = .pointer (some ⟨wb, 1, none⟩) | 23 => vv = iv | 26 => vv = .pointer (some ⟨wb, 0, none⟩) | 27 => vv = .pointer (some ⟨wb, 0, none⟩) | 28 => vv = .pointer (some ⟨wb, 0, none⟩) | 29 => vv = .pointer (some ⟨wb, 1, none⟩) | _ => True : Prop)) (FsR wb (.slice a us.length c) iv rv us is w2) (by kernel_rfl) rfl (by kernel_rfl) (by kernel_rfl) (fun w h => FsR.start H2.out h) (fun hs w w' h ht => h.turned0 ht) ?hs ?hQ
  case hs =>
    refine ⟨?s0, ?s1, ?s2, ?s3, ?s4, ?s5, ?s6, ?s7, ?s8, ?s9, ?s10, ?s11, ?s12, ?s13, ?s14, ?s15, ?s16, ?s17, ?s18, ?s19, ?s20, trivial⟩
    case s0 =>
      refine fun hs hl => stepG_free [] [0] (by kernel_rfl) rfl ?_
      intro ac W hT hI hO
      have h0 : ac.tmps.getD 0 undef = .pointer (some ⟨wb, 0, none⟩) := hO 0 (by simp)
      show Brings Try.prog (fun vv w' => Turned (fun _ => False) W w' ∧ vv = .pointer (some ⟨wb, 0, none⟩)) _
      simp only [execOp, Act.eval, h0]
      go_simp
      try exact ⟨Turned.refl _ _, rfl⟩
    case s1 =>
      refine fun hs hl => stepG_free [] [0] (by kernel_rfl) rfl ?_
      intro ac W hT hI hO
      have h0 : ac.tmps.getD 0 undef = .pointer (some ⟨wb, 0, none⟩) := hO 0 (by simp)
      show Brings Try.prog (fun vv w' => Turned (fun _ => False) W w' ∧ vv = .pointer (some ⟨wb, 0, none⟩)) _
      simp only [execOp, Act.eval, h0]
      go_simp
      try exact ⟨Turned.refl _ _, rfl⟩
    case s2 =>
      refine fun hs hl => stepG_free [] [0] (by kernel_rfl) rfl ?_
      intro ac W hT hI hO
      have h0 : ac.tmps.getD 0 undef = .pointer (some ⟨wb, 0, none⟩) := hO 0 (by simp)
      show Brings Try.prog (fun vv w' => Turned (fun _ => False) W w' ∧ vv = .pointer (some ⟨wb, 0, none⟩)) _
      simp only [execOp, Act.eval, h0]
      go_simp
      try exact ⟨Turned.refl _ _, rfl⟩
    case s3 =>
      refine fun hs hl => stepG_free [13] [] (by kernel_rfl) rfl ?_
      intro ac W hT hI hO
      have h13 : ac.tmps.getD 13 undef = .pointer (some ⟨wb, 0, none⟩) := hI 13 (by simp)
      show Brings Try.prog (fun vv w' => Turned (fun _ => False) W w' ∧ vv = .pointer (some ⟨wb, 0, none⟩)) _
      simp only [execOp, Act.eval, h13]
      go_simp
      try exact ⟨Turned.refl _ _, rfl⟩
    case s4 =>
      refine fun hs hl => stepG_free [14] [] (by kernel_rfl) rfl ?_
      intro ac W hT hI hO
      have h14 : ac.tmps.getD 14 undef = .pointer (some ⟨wb, 0, none⟩) := hI 14 (by simp)
      show Brings Try.prog (fun vv w' => Turned (fun _ => False) W w' ∧ vv = .pointer (some ⟨wb, 0, none⟩)) _
      simp only [execOp, Act.eval, h14]
      go_simp
      try exact ⟨Turned.refl _ _, rfl⟩
    case s5 =>
      refine fun hs hl => stepG_free [15] [] (by kernel_rfl) rfl ?_
      intro ac W hT hI hO
      have h15 : ac.tmps.getD 15 undef = .pointer (some ⟨wb, 0, none⟩) := hI 15 (by simp)
      show Brings Try.prog (fun vv w' => Turned (fun _ => False) W w' ∧ vv = .slice a us.length c) _
      obtain ⟨xa, xb, x1, x2, x3, x4, x5⟩ := hT.blk
      obtain rfl := x2 (fun q => hl 17 22 q (by kernel_rfl))
      obtain ⟨e0, e1, e2, _⟩ := rec3b x1
      simp only [execOp, Act.eval, h15]
      go_simp
      try exact ⟨Turned.refl _ _, rfl⟩
    case s6 =>
      refine fun hs hl => stepG_free [] [] (by kernel_rfl) rfl ?_
      intro ac W hT hI hO
      show Brings Try.prog (fun vv w' => Turned (fun _ => False) W w' ∧ vv = .agg #[.int .i64 0, .int .i64 0, .string ⟨#[]⟩, .slice none 0 0]) _
      simp only [execOp, Act.eval]
      go_simp
      try exact ⟨Turned.refl _ _, rfl⟩
    case s7 =>
      refine fun hs hno hl => stepG_free [17] [] (by kernel_rfl) rfl ?_
      intro ac W hT hI hO
      have h17 : ac.tmps.getD 17 undef = .agg #[.int .i64 0, .int .i64 0, .string ⟨#[]⟩, .slice none 0 0] := hI 17 (by simp)
      show Brings Try.prog (fun vv w' => FsR wb (.slice a us.length c) iv rv us is w2 (hs ++ [(7, vv)]) w') _
      have h17' : ac.tmps[17]?.getD undef = .agg #[.int .i64 0, .int .i64 0, .string ⟨#[]⟩, .slice none 0 0] := by rw [← Array.getD_eq_getD_getElem?]; exact h17
      simp only [execOp, Act.eval, h17]
      go_simp
      exact hT.laidT hno
    case s8 =>
      refine fun hs hno hl => stepG_free [16, 18] [] (by kernel_rfl) rfl ?_
      intro ac W hT hI hO
      have h16 : ac.tmps.getD 16 undef = .slice a us.length c := hI 16 (by simp)
      have h18 : (7, ac.tmps.getD 18 undef) ∈ hs := hI 18 (by simp)
      show Brings Try.prog (fun vv w' => FsR wb (.slice a us.length c) iv rv us is w2 (hs ++ [(8, vv)]) w') _
      obtain ⟨S, eS, _, hS⟩ := hT.ct.one _ h18 hno
      refine brings_append (.tmp 16) (.tmp 18) 39 rfl 41 i0 zeroR 4 56 Try.underlying39 hi0 hz0 hz1 hz2 rfl (by decide) _ _ _ h16 (hT.ct.old hno) ⟨S, 0, none⟩ 1 1 zc eS (LT.cells_length _) (news_block hS) (LT.cells_one _) (by omega) (by unfold maxLen; have := HM.out; omega) (by have := HM.out; omega) ?_
      intro g cap w' k1 k2 k3
      exact hT.appT H2.out hno k2 k1 k3
    case s9 =>
      refine fun hs hl => stepG_free [] [0] (by kernel_rfl) rfl ?_
      intro ac W hT hI hO
      have h0 : ac.tmps.getD 0 undef = .pointer (some ⟨wb, 0, none⟩) := hO 0 (by simp)
      show Brings Try.prog (fun vv w' => Turned (fun _ => False) W w' ∧ vv = .pointer (some ⟨wb, 0, none⟩)) _
      simp only [execOp, Act.eval, h0]
      go_simp
      try exact ⟨Turned.refl _ _, rfl⟩
    case s10 =>
      refine fun hs hl => stepG_free [20] [] (by kernel_rfl) rfl ?_
      intro ac W hT hI hO
      have h20 : ac.tmps.getD 20 undef = .pointer (some ⟨wb, 0, none⟩) := hI 20 (by simp)
      show Brings Try.prog (fun vv w' => Turned (fun _ => False) W w' ∧ vv = .pointer (some ⟨wb, 0, none⟩)) _
      simp only [execOp, Act.eval, h20]
      go_simp
      try exact ⟨Turned.refl _ _, rfl⟩
    case s11 =>
      refine fun hs hl => stepG_free [21] [] (by kernel_rfl) rfl ?_
      intro ac W hT hI hO
      have h21 : ac.tmps.getD 21 undef = .pointer (some ⟨wb, 0, none⟩) := hI 21 (by simp)
      show Brings Try.prog (fun vv w' => Turned (fun _ => False) W w' ∧ vv = .pointer (some ⟨wb, 1, none⟩)) _
      simp only [execOp, Act.eval, h21]
      go_simp
      try exact ⟨Turned.refl _ _, rfl⟩
    case s12 =>
      refine fun hs hl => stepG_free [22] [] (by kernel_rfl) rfl ?_
      intro ac W hT hI hO
      have h22 : ac.tmps.getD 22 undef = .pointer (some ⟨wb, 1, none⟩) := hI 22 (by simp)
      show Brings Try.prog (fun vv w' => Turned (fun _ => False) W w' ∧ vv = iv) _
      obtain ⟨xa, xb, x1, x2, x3, x4, x5⟩ := hT.blk
      obtain rfl := x4 (fun q => hl 20 22 q (by kernel_rfl))
      obtain ⟨e0, e1, e2, _⟩ := rec3b x1
      simp only [execOp, Act.eval, h22]
      go_simp
      try exact ⟨Turned.refl _ _, rfl⟩
    case s13 =>
      refine fun hs hno hl => stepG_free [] [] (by kernel_rfl) rfl ?_
      intro ac W hT hI hO
      show Brings Try.prog (fun vv w' => FsR wb (.slice a us.length c) iv rv us is w2 (hs ++ [(13, vv)]) w') _
      simp only [execOp, Act.eval]
      go_simp
      exact hT.laidI hno
    case s14 =>
      refine fun hs hno hl => stepG_free [23, 24] [] (by kernel_rfl) rfl ?_
      intro ac W hT hI hO
      have h23 : ac.tmps.getD 23 undef = iv := hI 23 (by simp)
      have h24 : (13, ac.tmps.getD 24 undef) ∈ hs := hI 24 (by simp)
      show Brings Try.prog (fun vv w' => FsR wb (.slice a us.length c) iv rv us is w2 (hs ++ [(14, vv)]) w') _
      obtain ⟨S, eS, _, hS⟩ := hT.ci.one _ h24 hno
      refine brings_append (.tmp 23) (.tmp 24) 56 rfl 4 i1 (.bool false) 1 1 Try.underlying56 hi1 hy0 hy1 hy2 rfl (by decide) _ _ _ h23 (hT.ci.old hno) ⟨S, 0, none⟩ 1 1 [.bool false] eS rfl (news_block hS) (by simp [Value.oneCell']) (by omega) (by unfold maxLen; have := HM.out; have := H2.out.same; omega) (by have := HM.out; have := H2.out.same; omega) ?_
      intro g cap w' k1 k2 k3
      exact hT.appI H2.out hno k2 k1 k3
    case s15 =>
      refine fun hs hl => stepG_free [11] [] (by kernel_rfl) rfl ?_
      intro ac W hT hI hO
      have h11 : ac.tmps.getD 11 undef = .pointer (some ⟨wb, 0, none⟩) := hI 11 (by simp)
      show Brings Try.prog (fun vv w' => Turned (fun _ => False) W w' ∧ vv = .pointer (some ⟨wb, 0, none⟩)) _
      simp only [execOp, Act.eval, h11]
      go_simp
      try exact ⟨Turned.refl _ _, rfl⟩
    case s16 =>
      refine fun hs hl => stepG_free [26] [] (by kernel_rfl) rfl ?_
      intro ac W hT hI hO
      have h26 : ac.tmps.getD 26 undef = .pointer (some ⟨wb, 0, none⟩) := hI 26 (by simp)
      show Brings Try.prog (fun vv w' => Turned (fun _ => False) W w' ∧ vv = .pointer (some ⟨wb, 0, none⟩)) _
      simp only [execOp, Act.eval, h26]
      go_simp
      try exact ⟨Turned.refl _ _, rfl⟩
    case s17 =>
      refine fun hs hno hl => stepG_free [27, 19] [] (by kernel_rfl) rfl ?_
      intro ac W hT hI hO
      have h27 : ac.tmps.getD 27 undef = .pointer (some ⟨wb, 0, none⟩) := hI 27 (by simp)
      have h19 : (8, ac.tmps.getD 19 undef) ∈ hs := hI 19 (by simp)
      obtain ⟨xa, xb, x1, x2, x3, x4, x5⟩ := hT.blk
      obtain ⟨e0, e1, e2, f0, f1, f2⟩ := rec3b x1
      show Brings Try.prog (fun vv w' => FsR wb (.slice a us.length c) iv rv us is w2 (hs ++ [(17, vv)]) w') _
      obtain ⟨g, cap, e19, _, _⟩ := hT.ct.new _ h19
      rw [e19] at h19
      simp only [execOp, Act.eval, h27, e19]
      go_simp
      exact hT.stT H2.out h19
    case s18 =>
      refine fun hs hl => stepG_free [12] [] (by kernel_rfl) rfl ?_
      intro ac W hT hI hO
      have h12 : ac.tmps.getD 12 undef = .pointer (some ⟨wb, 0, none⟩) := hI 12 (by simp)
      show Brings Try.prog (fun vv w' => Turned (fun _ => False) W w' ∧ vv = .pointer (some ⟨wb, 0, none⟩)) _
      simp only [execOp, Act.eval, h12]
      go_simp
      try exact ⟨Turned.refl _ _, rfl⟩
    case s19 =>
      refine fun hs hl => stepG_free [28] [] (by kernel_rfl) rfl ?_
      intro ac W hT hI hO
      have h28 : ac.tmps.getD 28 undef = .pointer (some ⟨wb, 0, none⟩) := hI 28 (by simp)
      show Brings Try.prog (fun vv w' => Turned (fun _ => False) W w' ∧ vv = .pointer (some ⟨wb, 1, none⟩)) _
      simp only [execOp, Act.eval, h28]
      go_simp
      try exact ⟨Turned.refl _ _, rfl⟩
    case s20 =>
      refine fun hs hno hl => stepG_free [29, 25] [] (by kernel_rfl) rfl ?_
      intro ac W hT hI hO
      have h29 : ac.tmps.getD 29 undef = .pointer (some ⟨wb, 1, none⟩) := hI 29 (by simp)
      have h25 : (14, ac.tmps.getD 25 undef) ∈ hs := hI 25 (by simp)
      obtain ⟨xa, xb, x1, x2, x3, x4, x5⟩ := hT.blk
      obtain ⟨e0, e1, e2, f0, f1, f2⟩ := rec3b x1
      show Brings Try.prog (fun vv w' => FsR wb (.slice a us.length c) iv rv us is w2 (hs ++ [(20, vv)]) w') _
      obtain ⟨g, cap, e25, _, _⟩ := hT.ci.new _ h25
      rw [e25] at h25
      simp only [execOp, Act.eval, h29, e25]
      go_simp
      exact hT.stI H2.out h25
  case hQ =>
    intro hs3 vs3 w3 hall huniq hR hV
    simp only [List.foldl_cons, List.foldl_nil, List.setIfInBounds_toArray, List.set_cons_zero, List.set_cons_succ]
    obtain ⟨tv3, iv3, hd3, T3, o1, o2⟩ := hR.done H2.out HM.out hall
    have hb3 := (T3.block w.heap.size (Array.getElem?_eq_some_iff.1 HB2.out).1 (fun e => by have := H.out.own_lt w.heap.size (e.elim .inl (fun e => e.elim (fun e => .inr (.inl e)) (fun e => .inr (.inr (.inl e))))); omega)).trans HB2.out
    obtain ⟨a3, c3, rfl⟩ := hd3.row.shape
    obtain ⟨e0, e1, e2, _⟩ := rec3b hd3.b
    rw [show (us ++ [leaf 0 0 ByteArray.empty]).length = us.length + 1 from by simp] at e0
    obtain ⟨c0, c1, c2, c4, f0, f1, f2, f3⟩ := cells4 hb3
    have HD3 := Lib.hid hd3
    have HT3 := Lib.hid T3
    have HO := Lib.hid (And.intro o1 o2)
    have HB3 := Lib.hid hb3
    have hz3 : ((us.length : Int) + 1 - 1) = (us.length : Int) := by omega
    clear hR hV hall huniq hd3 T3 o1 o2 hb3
    go_wp2_with fail
    have hset := set4 (a' := .int .i64 0) (b' := .int .i64 (us.length : Int)) (c' := .string ByteArray.empty) (d' := .slice none 0 0) HB3.out
    have Tq := turned_store4 w3 w.heap.size (.int .i64 0) (.int .i64 (us.length : Int)) (.string ByteArray.empty) (.slice none 0 0)
    have hs2 : w2.heap.size = w.heap.size + 1 := by rw [HW2.out]; simp
    obtain ⟨o1, o2⟩ := HO.out
    refine bodyPost_ret (results_cell_tmp1 Try.results103 _ _ w.heap.size 41 _ (0, 0) _ rfl hset Try.underlying41 rfl (by kernel_rfl)) rfl ⟨rfl, _, _, HD3.out.turned Tq (fun k _ hk => ⟨fun c => ?_, fun c => by have := (H.out.sep k c).1; omega⟩), ((HT2.out.mono (fun _ _ f => f.elim)).trans HT3.out).step Tq (fun i hi e => by omega), o1.imp_right (fun o k hk => by have := o k hk; omega), o2.imp_right (fun o k hk => by have := o k hk; omega)⟩
    rcases c with c | c | c | c
    · have := H.out.own_lt wb (.inl rfl); omega
    · rcases o1 with o | o
      · have := H.out.own_lt k (.inr (.inl (o ▸ c))); omega
      · have := o k c; omega
    · rcases o2 with o | o
      · have := H.out.own_lt k (.inr (.inr (.inl (o ▸ c)))); omega
      · have := o k c; omega
    · have := H.out.own_lt k (.inr (.inr (.inr c))); omega
end
end Go.Proofs.Ytoihjobdfjajfaa
namespace Go.Proofs.Ytoihjobdfjajfaa
set_option linter.unusedVariables false
set_option linter.unusedSimpArgs false
namespace Tm
noncomputable def UR.andThen (r : UR) (b : List (Tm Unit × Tm Unit)) : UR :=
  match r with
  | .ok l left => unify l left b
  | .no q => .no q
  | .over => .over
end Tm
end Go.Proofs.Ytoihjobdfjajfaa
namespace Go.Proofs.Ytoihjobdfjajfaa
open Go.RowKit Go.Maps
set_option linter.unusedVariables false
set_option linter.unusedSimpArgs false
structure DT (m : Nat) (l : Tm.Trail) (us : List LT) (is : List Bool) (tr : List Int) : Prop where
  ok : Tm.okT m l
  len : us.length = m
  set : ∀ i : Nat, i < m → is[i]? = some (decide ((i : Int) ∈ Tm.dom l))
  val : ∀ (i : Int) (t : Tm Unit), Tm.look l i = some t → ∃ u : LT, us[i.toNat]? = some u ∧ u.bare = t
  tr : tr = (Tm.dom l).reverse
structure DO (p : Nat → Prop) (wb : Nat) (O : Nat → Prop) (m : Nat) (l : Tm.Trail) (w : World) : Prop where
  db : ∃ tv iv rv us is tr, DB p wb tv iv rv us is tr w ∧ DT m l us is tr ∧ ∀ k, ownD wb tv iv rv k → O k
  lt : ∀ k, O k → k < w.heap.size
  sep : ∀ k, p k → ¬ O k
section
variable {p q O O' S : Nat → Prop} {wb m : Nat} {l : Tm.Trail} {w w' : World} {t : LT}
theorem DO.ok (h : DO p wb O m l w) : Tm.okT m l := by obtain ⟨_, _, _, _, _, _, _, T, _⟩ := h.db; exact T.ok
theorem DO.most (h : DO p wb O m l w) : m ≤ 65536 := by obtain ⟨_, _, _, _, _, _, D, T, _⟩ := h.db; have := D.most; have := T.len; omega
theorem DO.plt (h : DO p wb O m l w) : ∀ k, p k → k < w.heap.size := by obtain ⟨_, _, _, _, _, _, D, _⟩ := h.db; exact fun k hk => (D.sep k hk).1
theorem DO.turned (h : DO p wb O m l w) (T : Turned S w w') (hS : ∀ k, k < w.heap.size → S k → ¬ O k ∧ ¬ p k) : DO p wb O m l w' := by
  obtain ⟨tv, iv, rv, us, is, tr, D, R, hO⟩ := h.db
  exact ⟨⟨tv, iv, rv, us, is, tr, D.turned T (fun k hk e => ⟨fun c => (hS k hk e).1 (hO k c), (hS k hk e).2⟩), R, hO⟩, fun k hk => Nat.lt_of_lt_of_le (h.lt k hk) T.size, h.sep⟩
theorem DO.turned0 (h : DO p wb O m l w) (T : Turned (fun _ => False) w w') : DO p wb O m l w' := h.turned T (fun _ _ f => f.elim)
theorem DO.more (h : DO p wb O m l w) (hO : ∀ k, O k → O' k) (hl : ∀ k, O' k → k < w.heap.size) (hs : ∀ k, p k → ¬ O' k) : DO p wb O' m l w := by
  obtain ⟨tv, iv, rv, us, is, tr, D, R, h1⟩ := h.db
  exact ⟨⟨tv, iv, rv, us, is, tr, D, R, fun k hk => hO k (h1 k hk)⟩, hl, hs⟩
theorem DB.wide {tv iv rv : Value} {us : List LT} {is : List Bool} {tr : List Int} (h : DB p wb tv iv rv us is tr w) (hp : ∀ k, p k → q k) (hq : ∀ k, q k → k < w.heap.size ∧ ¬ ownD wb tv iv rv k) : DB q wb tv iv rv us is tr w :=
  ⟨h.b, h.row, h.bools, h.trail, h.same, (LT.ins_iff _).2 (fun x hx => ((LT.ins_iff _).1 h.ins x hx).mono (fun k _ hk => hp k hk)), h.most, h.ne, hq⟩
theorem DO.wide (h : DO p wb O m l w) (hp : ∀ k, p k → q k) (hq : ∀ k, q k → k < w.heap.size ∧ ¬ O k) : DO q wb O m l w := by
  obtain ⟨tv, iv, rv, us, is, tr, D, R, h1⟩ := h.db
  exact ⟨⟨tv, iv, rv, us, is, tr, D.wide hp (fun k hk => ⟨(hq k hk).1, fun c => (hq k hk).2 (h1 k c)⟩), R, h1⟩, h.lt, fun k hk => (hq k hk).2⟩
def AfterD (p : Nat → Prop) (wb : Nat) (O : Nat → Prop) (m : Nat) (l : Tm.Trail) (w w' : World) : Prop :=
  ∃ O' : Nat → Prop, DO p wb O' m l w' ∧ (∀ k, O' k → k < w.heap.size → O k) ∧ Turned O w w'
theorem AfterD.turned0 {w2 : World} (h : AfterD p wb O m l w w') (T : Turned (fun _ => False) w' w2) : AfterD p wb O m l w w2 := by
  obtain ⟨O', h1, h2, h3⟩ := h
  exact ⟨O', h1.turned0 T, h2, h3.trans (T.mono (fun _ _ f => f.elim))⟩
theorem AfterD.trans {m' m2 : Nat} {l' l2 : Tm.Trail} {w2 : World} (h : AfterD p wb O m' l' w w') (h2 : ∀ O', DO p wb O' m' l' w' → AfterD p wb O' m2 l2 w' w2) : AfterD p wb O m2 l2 w w2 := by
  obtain ⟨O', a1, a2, a3⟩ := h
  obtain ⟨O2, b1, b2, b3⟩ := h2 O' a1
  refine ⟨O2, b1, fun k hk hl => a2 k (b2 k hk (Nat.lt_of_lt_of_le hl a3.size)) hl, a3.step b3 (fun i hi e => a2 i e hi)⟩
theorem newD (w : World) (hp : ∀ k, p k → k < w.heap.size) : DO p w.heap.size (fun k => w.heap.size ≤ k ∧ k < w.heap.size + 1) 0 [] (w.alloc (.cells #[.slice none 0 0, .slice none 0 0, .slice none 0 0] 113)) := by
  refine ⟨⟨_, _, _, [], [], [], DB.none hp, ⟨trivial, rfl, fun i hi => absurd hi (Nat.not_lt_zero _), fun i t h => (by cases h), rfl⟩, fun k hk => ?_⟩, fun k hk => (by simp; omega), fun k hk c => by have := hp k hk; omega⟩
  rcases hk with e | e | e | e
  · omega
  · simp [Value.ownBlock] at e
  · simp [Value.ownBlock] at e
  · simp [Value.ownBlock] at e
theorem freshD (h : DO p wb O m l w) (hm : m < 65536) :
    Calls Try.prog 103 #[.pointer (some ⟨wb, 0, none⟩)] w fun e w' => e = .returned (.tuple #[.agg #[.int .i64 0, .int .i64 (m : Int), .string ByteArray.empty, .slice none 0 0], .bool true]) ∧ AfterD p wb O (m + 1) l w w' := by
  obtain ⟨tv, iv, rv, us, is, tr, D, R, hO⟩ := h.db
  have hl := R.len
  refine (fresh103 D (by omega)).mono ?_
  rintro e w' ⟨rfl, tv', iv', D', T, o1, o2⟩
  have hold : ∀ k, ownD wb tv' iv' rv k → k < w.heap.size → ownD wb tv iv rv k := fun k hk hl => by
    rcases hk with e | e | e | e
    · exact .inl e
    · rcases o1 with o | o
      · exact .inr (.inl (o ▸ e))
      · have := o k e; omega
    · rcases o2 with o | o
      · exact .inr (.inr (.inl (o ▸ e)))
      · have := o k e; omega
    · exact .inr (.inr (.inr e))
  have hnd : ((us.length : Nat) : Int) ∉ Tm.dom l := fun c => by
    obtain ⟨b, hb, e⟩ := List.mem_map.1 c
    have := (Tm.okT_mem R.ok hb).2.1
    omega
  have his : is.length = m := by rw [D.same]; exact hl
  refine ⟨by rw [hl], fun k => ownD wb tv' iv' rv k ∨ (O k ∧ k < w.heap.size), ⟨⟨tv', iv', rv, _, _, tr, D', ⟨R.ok.more (Nat.le_succ m), by rw [List.length_append, hl]; rfl, ?_, ?_, R.tr⟩, fun k hk => .inl hk⟩, fun k hk => hk.elim (D'.own_lt k) (fun e => Nat.lt_of_lt_of_le e.2 T.size), fun k hk c => ?_⟩, fun k hk hl => hk.elim (fun c => hO k (hold k c hl)) (fun e => e.1), T.mono (fun k _ e => hO k (e.elim .inl (fun e => e.elim (fun e => .inr (.inl e)) (fun e => .inr (.inr (.inl e))))))⟩
  · intro i hi
    rcases Nat.lt_or_ge i m with h1 | h1
    · rw [List.getElem?_append_left (by omega)]; exact R.set i h1
    · obtain rfl : i = us.length := by omega
      rw [List.getElem?_append_right (by omega), show us.length - is.length = 0 by omega, decide_eq_false hnd]
      rfl
  · intro i t hi
    obtain ⟨u, hu, hb⟩ := R.val i t hi
    exact ⟨u, by rw [List.getElem?_append_left (List.getElem?_eq_some_iff.1 hu).1]; exact hu, hb⟩
  · rcases c with c | c
    · exact (D'.sep k hk).2 c
    · exact h.sep k hk c.1
end
end Go.Proofs.Ytoihjobdfjajfaa
namespace Go.Proofs.Ytoihjobdfjajfaa
open Go.RowKit Go.Maps
set_option linter.unusedVariables false
set_option linter.unusedSimpArgs false
structure BD2 (q : Nat → Prop) (bb wb : Nat) (O D : Nat → Prop) (m mw : Nat) (l : TL) (lw : Tm.Trail) (w : World) : Prop where
  b : BO q bb O m l w
  d : DO q wb D mw lw w
  dis : ∀ k, O k → ¬ D k
section
variable {q q' O D : Nat → Prop} {bb wb m mw m' : Nat} {l l' : TL} {lw lw' : Tm.Trail} {w w' : World} {N : Nat} {w1 wr : World}
theorem BD2.turned0 (h : BD2 q bb wb O D m mw l lw w) (T : Turned (fun _ => False) w w') : BD2 q bb wb O D m mw l lw w' :=
  ⟨h.b.turned0 T, h.d.turned0 T, h.dis⟩
theorem BD2.stepB (h : BD2 q bb wb O D m mw l lw w) (ha : After q bb O m' l' w w') : ∃ O', BD2 q bb wb O' D m' mw l' lw w' ∧ (∀ k, O' k → k < w.heap.size → O k) ∧ Turned O w w' := by
  obtain ⟨O', a1, a2, a3⟩ := ha
  refine ⟨O', ⟨a1, h.d.turned a3 (fun k hk e => ⟨h.dis k e, fun c => h.b.sep k c e⟩), fun k hk c => h.dis k (a2 k hk (h.d.lt k c)) c⟩, a2, a3⟩
theorem BD2.stepD (h : BD2 q bb wb O D m mw l lw w) (ha : AfterD q wb D m' lw' w w') : ∃ D', BD2 q bb wb O D' m m' l lw' w' ∧ (∀ k, D' k → k < w.heap.size → D k) ∧ Turned D w w' := by
  obtain ⟨D', a1, a2, a3⟩ := ha
  refine ⟨D', ⟨h.b.turned a3 (fun k hk e => ⟨fun c => h.dis k c e, fun c => h.d.sep k c e⟩), a1, fun k hk c => h.dis k hk (a2 k c (h.b.lt k hk))⟩, a2, a3⟩
theorem BD2.wide (h : BD2 q bb wb O D m mw l lw w) (hp : ∀ k, q k → q' k) (hq : ∀ k, q' k → k < w.heap.size ∧ ¬ O k ∧ ¬ D k) : BD2 q' bb wb O D m mw l lw w :=
  ⟨h.b.wide hp (fun k hk => ⟨(hq k hk).1, (hq k hk).2.1⟩), h.d.wide hp (fun k hk => ⟨(hq k hk).1, (hq k hk).2.2⟩), h.dis⟩
theorem BD2.grown (h : BD2 q bb wb O D m mw l lw w) (T : Turned (fun _ => False) w w') : BD2 (fun k => q k ∨ (w.heap.size ≤ k ∧ k < w'.heap.size)) bb wb O D m mw l lw w' := by
  refine (h.turned0 T).wide (fun k hk => .inl hk) (fun k hk => ?_)
  rcases hk with hk | hk
  · exact ⟨Nat.lt_of_lt_of_le (h.b.plt k hk) T.size, h.b.sep k hk, h.d.sep k hk⟩
  · exact ⟨hk.2, fun c => by have := h.b.lt k c; omega, fun c => by have := h.d.lt k c; omega⟩
def BDq (q : Nat → Prop) (N bb wb m mw : Nat) (l : TL) (lw : Tm.Trail) (w1 wr : World) : Prop :=
  ∃ O D, BD2 q bb wb O D m mw l lw wr ∧ (∀ k, O k → N ≤ k) ∧ (∀ k, D k → N ≤ k) ∧ Turned (fun _ => False) w1 wr
theorem BDq.stepB (hN : N ≤ w1.heap.size) (h : BD2 q bb wb O D m mw l lw wr) (hO : ∀ k, O k → N ≤ k) (hD : ∀ k, D k → N ≤ k) (hO1 : ∀ k, O k → w1.heap.size ≤ k) (T : Turned (fun _ => False) w1 wr) (ha : After q bb O m' l' wr w') : BDq q N bb wb m' mw l' lw w1 w' := by
  obtain ⟨O', a1, a2, a3⟩ := h.stepB ha
  refine ⟨O', D, a1, fun k hk => ?_, hD, T.step a3 (fun i hi e => by have := hO1 i e; omega)⟩
  rcases Nat.lt_or_ge k wr.heap.size with h1 | h1
  · exact hO k (a2 k hk h1)
  · have := T.size; omega
theorem BDq.stepD (hN : N ≤ w1.heap.size) (h : BD2 q bb wb O D m mw l lw wr) (hO : ∀ k, O k → N ≤ k) (hD : ∀ k, D k → N ≤ k) (hD1 : ∀ k, D k → w1.heap.size ≤ k) (T : Turned (fun _ => False) w1 wr) (ha : AfterD q wb D m' lw' wr w') : BDq q N bb wb m m' l lw' w1 w' := by
  obtain ⟨D', a1, a2, a3⟩ := h.stepD ha
  refine ⟨O, D', a1, hO, fun k hk => ?_, T.step a3 (fun i hi e => by have := hD1 i e; omega)⟩
  rcases Nat.lt_or_ge k wr.heap.size with h1 | h1
  · exact hD k (a2 k hk h1)
  · have := T.size; omega
theorem BDq.turned0 (h : BDq q N bb wb m mw l lw w1 wr) (T : Turned (fun _ => False) wr w') : BDq q N bb wb m mw l lw w1 w' := by
  obtain ⟨O, D, h1, h3, h4, h5⟩ := h
  exact ⟨O, D, h1.turned0 T, h3, h4, h5.trans T⟩
theorem BDq.old (h : BDq q N bb wb m mw l lw w1 wr) : Turned (fun _ => False) w1 wr := by
  obtain ⟨O, D, h1, h3, h4, h5⟩ := h
  exact h5
theorem BDq.binds (h : BDq (fun k => k < N) N bb wb m mw l lw w1 wr) : BLoop N bb m l w1 wr := by
  obtain ⟨O, D, h1, h3, h4, h5⟩ := h
  exact ⟨O, h1.b, h3, h5⟩
end
set_option maxRecDepth 100000 in
set_option maxHeartbeats 3200000 in
theorem both109 (n : Nat) (hn : n ≤ 65536) (w : World) :
    Calls Try.prog 109 #[.int .i64 n] w fun e w' => ∃ bb wb, e = .returned (.tuple #[.pointer (some ⟨bb, 0, none⟩), .pointer (some ⟨wb, 0, none⟩)]) ∧ BDq (fun k => k < w.heap.size) w.heap.size bb wb n n [] [] w w' := by
  go_enter Try.func109, Try.ntmps109
  go_wp2_with (go_at_call 86; (with_reducible refine (newO86 (p := fun k => k < w.heap.size) _ (fun k h => h)).mono ?_); rintro e w2 ⟨bb, rfl, B2, _, T2⟩; have HB2 : Hid (BLoop w.heap.size bb 0 [] w w2) := ⟨_, B2, fun k hk => hk.1, T2⟩; have HT2 := Lib.hid T2; clear B2 T2)
  have hb2 : BDq (fun k => k < w.heap.size) w.heap.size bb w2.heap.size 0 0 [] [] w (w2.alloc (.cells #[.slice none 0 0, .slice none 0 0, .slice none 0 0] 113)) := by
    obtain ⟨O, B, hO, T⟩ := HB2.out
    have T3 := (Turned.refl (fun _ => False) w2).alloc (.cells #[.slice none 0 0, .slice none 0 0, .slice none 0 0] 113)
    refine ⟨O, _, ⟨B.turned0 T3, newD w2 (fun k hk => Nat.lt_of_lt_of_le hk T.size), fun k hk c => by have := B.lt k hk; omega⟩, hO, fun k hk => by have := T.size; omega, T.trans T3⟩
  have HB3 := Lib.hid hb2
  clear hb2
  go_loopg [6] n (fun k i wr => ∃ j : Nat, Hid (j + k = n) ∧ j ≤ n ∧ i = .int .i64 j ∧ Hid (BDq (fun k => k < w.heap.size) w.heap.size bb w2.heap.size j j [] [] w wr))
  case atStart => exact ⟨0, Nat.zero_add _, Nat.zero_le _, rfl, HB3⟩
  case round =>
    obtain ⟨j, HG, hj, rfl, HB⟩ := hrel
    by_cases hjn : j < n
    · have dj : decide ((j : Int) < (n : Int)) = true := decide_eq_true (by omega)
      go_wp2_with (first
        | (go_at_call 87; obtain ⟨O, D, B, hO, hD, T⟩ := HB.out; (with_reducible refine (freshO87 B.b (by omega)).mono ?_); rintro e w3 ⟨rfl, A3⟩; have HB4 : Hid (BDq (fun k => k < w.heap.size) w.heap.size bb w2.heap.size (j + 1) j [] [] w w3) := BDq.stepB (Nat.le_refl _) B hO hD hO T A3; clear B hO hD T A3)
        | (go_at_call 103; obtain ⟨O, D, B, hO, hD, T⟩ := HB4.out; (with_reducible refine (freshD B.d (by omega)).mono ?_); rintro e w4 ⟨rfl, A4⟩; have HB5 : Hid (BDq (fun k => k < w.heap.size) w.heap.size bb w2.heap.size (j + 1) (j + 1) [] [] w w4) := BDq.stepD (Nat.le_refl _) B hO hD hD T A4; clear B hO hD T A4))
      go_roundg (gk - 1)
      case measure => have := HG.out; omega
      case rel => exact ⟨j + 1, show _ = _ by have := HG.out; omega, by omega, by go_num, HB5⟩
    · obtain rfl : j = n := by omega
      have dj : decide ((j : Int) < (j : Int)) = false := decide_eq_false (by omega)
      go_wp2_with fail
      go_ret2
      exact ⟨bb, _, rfl, HB.out⟩
end Go.Proofs.Ytoihjobdfjajfaa
namespace Go.Proofs.Ytoihjobdfjajfaa
open Go.RowKit Go.Maps
set_option linter.unusedVariables false
set_option linter.unusedSimpArgs false
theorem compN {N : Nat} {w : World} {l : List LT} (s : ByteArray) (hs : s.size ≤ maxLen) (n : Nat) (hl : n ≤ 1000) (hn : l.length = n) (h : LT.Ins (fun k => N ≤ k) w l) (hN : N ≤ w.heap.size) (cs : Array Value) (hcs : cs = (l.flatMap LT.cells).toArray) :
    Calls Try.prog 37 #[.string s, .slice (some ⟨w.heap.size, 0, none⟩) n n] (w.alloc (.cells cs 27)) fun e w' => ∃ a' c', e = .returned (.agg #[.int .i64 2, .int .i64 0, .string s, .slice a' n c']) ∧ LT.In (fun k => N ≤ k) w' (.mk 2 0 s (a', c') l) ∧ Turned (fun _ => False) w w' := by
  subst hn hcs
  have hr := Row.made w 27 4 (l.flatMap LT.cells).toArray l.length (by rw [List.size_toArray, LT.flat_length]) (by unfold maxLen; omega)
  have T0 := (Turned.refl (fun _ => False) w).alloc (.cells (l.flatMap LT.cells).toArray 27)
  have hsl := (LT.Sl.of_row (p := fun k => N ≤ k) hr (fun k hk => by simp [Value.ownBlock] at hk; subst hk; exact hN) (LT.Ins.turned0 h T0)).2
  refine (comp37 s hs hsl (by omega)).mono ?_
  rintro e w' ⟨d, rfl, hi, ht⟩
  obtain ⟨a, c⟩ := d
  exact ⟨a, c, by rw [LT.val_eq]; rfl, hi.mono (fun k _ hk => by
    rcases hk with hk | hk
    · exact hk
    · have := T0.size; omega), T0.trans ht⟩
end Go.Proofs.Ytoihjobdfjajfaa
