/- Merged texts: BR3, UF1, UF2. -/
import Derived.Test.YtoihjobdfjajfaaUk4
namespace Go.Proofs.Ytoihjobdfjajfaa
open Go.RowKit Go.Maps
set_option linter.unusedVariables false
set_option linter.unusedSimpArgs false
noncomputable def couldR (x y : Tm Unit) : Bool × Int × Int × Tm.Trail := bothR (0 + x.vars.length + y.vars.length) [] (Tm.fromT x ((0 : Nat) : Int)) (Tm.fromT y ((0 + x.vars.length : Nat) : Int))
noncomputable def couldB (x y : Tm Unit) : Bool := goodB x && (goodB y && ((couldR x y).1 && decide ((couldR x y).2.2.1 = 0)))
def CdS (p : Nat → Prop) (bb : Nat) (O0 : Nat → Prop) (x y : LT) (w1 : World) : List Value → World → Prop
  | [], W => Turned (fun _ => False) w1 W
  | [a], W => ∃ (u : LT) (O' : Nat → Prop), a = .agg #[.int .i64 u.kind, .int .i64 u.n, .string u.name, .slice u.at_.1 u.args.length u.at_.2] ∧ u.bare = Tm.fromT x.bare ((0 : Nat) : Int) ∧ BO p bb O' (0 + x.vars.length) [] W ∧ (∀ k, O' k → k < w1.heap.size → O0 k) ∧ Turned O0 w1 W ∧ u.In (fun k => p k ∨ (w1.heap.size ≤ k ∧ ¬ O' k)) W
  | [a, b], W => ∃ (u v : LT) (q O' : Nat → Prop), a = .agg #[.int .i64 u.kind, .int .i64 u.n, .string u.name, .slice u.at_.1 u.args.length u.at_.2] ∧ b = .agg #[.int .i64 v.kind, .int .i64 v.n, .string v.name, .slice v.at_.1 v.args.length v.at_.2] ∧ u.bare = Tm.fromT x.bare ((0 : Nat) : Int) ∧ v.bare = Tm.fromT y.bare ((0 + x.vars.length : Nat) : Int) ∧ BO q bb O' (0 + x.vars.length + y.vars.length) [] W ∧ (∀ k, O' k → k < w1.heap.size → O0 k) ∧ Turned O0 w1 W ∧ u.In q W ∧ v.In q W
  | [_, _, c], W => c = .tuple #[.bool (couldR x.bare y.bare).1, .int .i64 (couldR x.bare y.bare).2.1, .int .i64 (couldR x.bare y.bare).2.2.1] ∧ Turned O0 w1 W
  | _, _ => False
section
variable {p O0 : Nat → Prop} {bb : Nat} {x y : LT} {w1 : World}
theorem CdS.turned0 : ∀ (hs : List Value) (w w' : World), CdS p bb O0 x y w1 hs w → Turned (fun _ => False) w w' → CdS p bb O0 x y w1 hs w'
  | [], _, _, h, T => Turned.trans h T
  | [_], _, _, ⟨u, O', h1, h2, h3, h4, h5, h6⟩, T => ⟨u, O', h1, h2, h3.turned0 T, h4, h5.trans (T.mono (fun _ _ f => f.elim)), h6.turned0 T⟩
  | [_, _], _, _, ⟨u, v, q, O', h1, h2, h3, h4, h5, h6, h7, h8, h9⟩, T => ⟨u, v, q, O', h1, h2, h3, h4, h5.turned0 T, h6, h7.trans (T.mono (fun _ _ f => f.elim)), h8.turned0 T, h9.turned0 T⟩
  | [_, _, _], _, _, ⟨h1, h2⟩, T => ⟨h1, h2.trans (T.mono (fun _ _ f => f.elim))⟩
  | _ :: _ :: _ :: _ :: _, _, _, h, _ => h.elim
theorem CdS.turned : ∀ (hs : List Value) (W : World), CdS p bb O0 x y w1 hs W → Turned O0 w1 W
  | [], _, h => Turned.mono h (fun _ _ f => f.elim)
  | [_], _, ⟨u, O', h1, h2, h3, h4, h5, h6⟩ => h5
  | [_, _], _, ⟨u, v, q, O', h1, h2, h3, h4, h5, h6, h7, h8, h9⟩ => h7
  | [_, _, _], _, ⟨h1, h2⟩ => h2
  | _ :: _ :: _ :: _ :: _, _, h => h.elim
theorem CdS.val : ∀ (hs : List Value) (W : World) {c : Value}, CdS p bb O0 x y w1 hs W → hs[2]? = some c → c = .tuple #[.bool (couldR x.bare y.bare).1, .int .i64 (couldR x.bare y.bare).2.1, .int .i64 (couldR x.bare y.bare).2.2.1]
  | [], _, _, _, e => by simp at e
  | [_], _, _, _, e => by simp at e
  | [_, _], _, _, _, e => by simp at e
  | [_, _, _], _, _, h, e => by simp at e; rw [← e]; exact h.1
  | _ :: _ :: _ :: _ :: _, _, _, h, _ => h.elim
theorem cd_two {W W' : World} {u v : LT} {O' O2 : Nat → Prop} (h2 : u.bare = Tm.fromT x.bare ((0 : Nat) : Int)) (h3 : BO p bb O' (0 + x.vars.length) [] W) (h4 : ∀ k, O' k → k < w1.heap.size → O0 k) (h5 : Turned O0 w1 W) (h6 : u.In (fun k => p k ∨ (w1.heap.size ≤ k ∧ ¬ O' k)) W)
    (hv : v.bare = Tm.fromT y.bare ((0 + x.vars.length : Nat) : Int)) (b1 : BO p bb O2 (0 + x.vars.length + y.vars.length) [] W') (b2 : ∀ k, O2 k → k < W.heap.size → O' k) (b3 : Turned O' W W') (hi : v.In (fun k => p k ∨ (W.heap.size ≤ k ∧ ¬ O2 k)) W') : CdS p bb O0 x y w1 [.agg #[.int .i64 u.kind, .int .i64 u.n, .string u.name, .slice u.at_.1 u.args.length u.at_.2], .agg #[.int .i64 v.kind, .int .i64 v.n, .string v.name, .slice v.at_.1 v.args.length v.at_.2]] W' := by
  have hs := h5.size
  refine ⟨u, v, fun k => k < W'.heap.size ∧ ¬ O2 k, O2, rfl, rfl, h2, hv, b1.wide (fun k hk => ⟨b1.plt k hk, b1.sep k hk⟩) (fun k hk => hk), fun k hk hl => h4 k (b2 k hk (by omega)) hl, h5.step b3 (fun i hi e => h4 i e hi), ?_, ?_⟩
  · exact LT.In.turned b3 (fun k hl hk e => by
      rcases hk with hk | hk
      · exact h3.sep k hk e
      · exact hk.2 e) (fun k hl hk => ⟨Nat.lt_of_lt_of_le hl b3.size, fun c => by
      rcases hk with hk | hk
      · exact b1.sep k hk c
      · exact hk.2 (b2 k c hl)⟩) _ h6
  · refine hi.mono (fun k hl hk => ⟨hl, fun c => ?_⟩)
    rcases hk with hk | hk
    · exact b1.sep k hk c
    · exact hk.2 c
end
set_option maxRecDepth 100000 in
set_option maxHeartbeats 12800000 in
theorem could112 {x y : LT} {w : World} (hx : x.In (fun _ => True) w) (sx : slim x) (hy : y.In (fun _ => True) w) (sy : slim y) :
    Calls Try.prog 112 #[x.val, y.val] w fun e w' => e = .returned (.bool (couldB x.bare y.bare)) ∧ Turned (fun _ => False) w w' := by
  have h2 := twoBox w (.cells #[.int .i64 x.kind, .int .i64 x.n, .string x.name, .slice x.at_.1 x.args.length x.at_.2] 27) (.cells #[.int .i64 y.kind, .int .i64 y.n, .string y.name, .slice y.at_.1 y.args.length y.at_.2] 27)
  obtain ⟨w2, hw2⟩ : ∃ z, z = (w.alloc (.cells #[.int .i64 x.kind, .int .i64 x.n, .string x.name, .slice x.at_.1 x.args.length x.at_.2] 27)).alloc (.cells #[.int .i64 y.kind, .int .i64 y.n, .string y.name, .slice y.at_.1 y.args.length y.at_.2] 27) := ⟨_, rfl⟩
  rw [← hw2] at h2
  have hkp : ∀ W, Turned (fun _ => False) w2 W → (W.cell? ⟨w.heap.size, 0, none⟩ = some (.int .i64 x.kind) ∧ W.cell? ⟨w.heap.size, 1, none⟩ = some (.int .i64 x.n) ∧ W.cell? ⟨w.heap.size, 2, none⟩ = some (.string x.name) ∧ W.cell? ⟨w.heap.size, 3, none⟩ = some (.slice x.at_.1 x.args.length x.at_.2)) ∧ (W.cell? ⟨w.heap.size + 1, 0, none⟩ = some (.int .i64 y.kind) ∧ W.cell? ⟨w.heap.size + 1, 1, none⟩ = some (.int .i64 y.n) ∧ W.cell? ⟨w.heap.size + 1, 2, none⟩ = some (.string y.name) ∧ W.cell? ⟨w.heap.size + 1, 3, none⟩ = some (.slice y.at_.1 y.args.length y.at_.2)) := fun W h =>
    ⟨four_of ((h.block _ (by have := h2.2.1; omega) (fun f => f)).trans h2.2.2.1), four_of ((h.block _ (by have := h2.2.1; omega) (fun f => f)).trans h2.2.2.2)⟩
  have HKP := Lib.hid hkp
  have HW2 := Lib.hid hw2
  have HT2 := Lib.hid h2.1
  have HX := Lib.hid (hx.turned0 h2.1)
  have HY := Lib.hid (hy.turned0 h2.1)
  have HSX := Lib.hid sx
  have HSY := Lib.hid sy
  rw [LT.val_eq, LT.val_eq y]
  clear hkp hw2 h2 hx hy sx sy
  cases gx : goodB x with
  | false =>
    have hR : couldB x.bare y.bare = false := by unfold couldB; rw [goodB_bare, gx]; rfl
    have HG := Lib.hid gx
    rw [hR]
    clear gx hR
    go_enter Try.func112, Try.ntmps112
    go_wp2_with (go_at_call 38; rw [← HW2.out]; (with_reducible refine (goodVal' (b := false) HX.out HSX.out HG.out).mono ?_); rintro e w3 ⟨rfl, T3⟩)
    go_ret
    exact ⟨rfl, HT2.out.trans T3⟩
  | true =>
  have HG := Lib.hid gx
  cases gy : goodB y with
  | false =>
    have hR : couldB x.bare y.bare = false := by unfold couldB; rw [goodB_bare, gx, goodB_bare, gy]; rfl
    have HGY := Lib.hid gy
    rw [hR]
    clear gx gy hR
    go_enter Try.func112, Try.ntmps112
    go_wp2_with (first
      | (go_at_call 38; (with_reducible refine (goodVal' (b := false) (HY.out.turned0 T3) HSY.out HGY.out).mono ?_); rintro e w4 ⟨rfl, T4⟩)
      | (go_at_call 38; rw [← HW2.out]; (with_reducible refine (goodVal' (b := true) HX.out HSX.out HG.out).mono ?_); rintro e w3 ⟨rfl, T3⟩; obtain ⟨_, d0, d1, d2, d3⟩ := HKP.out _ T3))
    go_ret
    exact ⟨rfl, (HT2.out.trans T3).trans T4⟩
  | true =>
  have HGY := Lib.hid gy
  have hR : couldB x.bare y.bare = ((couldR x.bare y.bare).1 && decide ((couldR x.bare y.bare).2.2.1 = 0)) := by unfold couldB; rw [goodB_bare, gx, goodB_bare, gy]; rfl
  obtain ⟨R, hRR⟩ : ∃ z, z = couldR x.bare y.bare := ⟨_, rfl⟩
  have hlx : x.vars.length ≤ 2000 := by have := varsB_le x; unfold varsB at this; rw [if_pos gx] at this; exact this
  have hly : y.vars.length ≤ 2000 := by have := varsB_le y; unfold varsB at this; rw [if_pos gy] at this; exact this
  obtain ⟨RB, hRB⟩ : ∃ z, z = couldB x.bare y.bare := ⟨_, rfl⟩
  obtain ⟨ok, hok⟩ : ∃ z, z = (couldR x.bare y.bare).1 := ⟨_, rfl⟩
  obtain ⟨er, her⟩ : ∃ z, z = (couldR x.bare y.bare).2.2.1 := ⟨_, rfl⟩
  rw [← hRB] at hR ⊢
  rw [← hok, ← her] at hR
  have HOKE := Lib.hid hok.symm
  have HERE := Lib.hid her.symm
  have HRB := Lib.hid hR
  clear hR gx gy hRB hok her
  go_enter Try.func112, Try.ntmps112
  go_wp2_with (first
    | (go_at_call 38; (with_reducible refine (goodVal' (b := true) (HY.out.turned0 T3) HSY.out HGY.out).mono ?_); rintro e w4 ⟨rfl, T4⟩; have HT4 := Lib.hid (T3.trans T4); clear T3 T4)
    | (go_at_call 38; rw [← HW2.out]; (with_reducible refine (goodVal' (b := true) HX.out HSX.out HG.out).mono ?_); rintro e w3 ⟨rfl, T3⟩; obtain ⟨_, d0, d1, d2, d3⟩ := HKP.out _ T3)
    | (go_at_call 86; (with_reducible refine (newO86 (p := fun k => k < w4.heap.size) _ (fun k h => h)).mono ?_); rintro e w5 ⟨bb, rfl, B5, _, T5⟩; have HB5 := Lib.hid B5; have HT5 := Lib.hid (HT4.out.trans T5); have HT45 := Lib.hid T5; clear B5 T5))
  obtain ⟨O0, hO0⟩ : ∃ z : Nat → Prop, z = fun k => w4.heap.size ≤ k ∧ k < w5.heap.size := ⟨_, rfl⟩
  rw [← hO0] at HB5
  have HO0 : Hid (∀ k, O0 k → w4.heap.size ≤ k) := by intro k hk; rw [hO0] at hk; exact hk.1
  have HXI : Hid (x.In (fun k => k < w4.heap.size) w5) := ((HX.out.turned0 HT4.out).mono (fun k hk _ => hk)).turned0 HT45.out
  have HYI : Hid (y.In (fun k => k < w4.heap.size) w5) := ((HY.out.turned0 HT4.out).mono (fun k hk _ => hk)).turned0 HT45.out
  have HPO : Hid (∀ k, k < w4.heap.size → ¬ O0 k) := fun k hk e => by have := HO0.out k e; omega
  have HKW : Hid (∀ W, Turned O0 w5 W → (W.cell? ⟨w.heap.size, 0, none⟩ = some (.int .i64 x.kind) ∧ W.cell? ⟨w.heap.size, 1, none⟩ = some (.int .i64 x.n) ∧ W.cell? ⟨w.heap.size, 2, none⟩ = some (.string x.name) ∧ W.cell? ⟨w.heap.size, 3, none⟩ = some (.slice x.at_.1 x.args.length x.at_.2)) ∧ (W.cell? ⟨w.heap.size + 1, 0, none⟩ = some (.int .i64 y.kind) ∧ W.cell? ⟨w.heap.size + 1, 1, none⟩ = some (.int .i64 y.n) ∧ W.cell? ⟨w.heap.size + 1, 2, none⟩ = some (.string y.name) ∧ W.cell? ⟨w.heap.size + 1, 3, none⟩ = some (.slice y.at_.1 y.args.length y.at_.2))) := fun W T => by
    refine HKP.out W (HT4.out.trans ?_)
    exact HT45.out.step T (fun i hi e => by have := HO0.out i e; omega)
  clear hO0 hRR d0 d1 d2 d3 hlx hly
  have hlx : x.vars.length ≤ 2000 := by have := varsB_le x; unfold varsB at this; rw [if_pos HG.out] at this; exact this
  have hly : y.vars.length ≤ 2000 := by have := varsB_le y; unfold varsB at this; rw [if_pos HGY.out] at this; exact this
  refine wp_region_hsW [19, 20, 21, 22, 23, 24, 25, 26, 18, 27, 28, 29, 6, 7, 8] [3, 6, 7] [2, 0, 0, 1, 1, 1, 2, 3, 3, 3, 3, 3, 3, 3, 3] [22, 25, 26] (fun dd vv => (match dd with | 19 => vv = .pointer (some ⟨bb, 0, none⟩) | 20 => vv = .pointer (some ⟨bb, 0, none⟩) | 21 => vv = .agg #[.int .i64 x.kind, .int .i64 x.n, .string x.name, .slice x.at_.1 x.args.length x.at_.2] | 23 => vv = .pointer (some ⟨bb, 0, none⟩) | 24 => vv = .agg #[.int .i64 y.kind, .int .i64 y.n, .string y.name, .slice y.at_.1 y.args.length y.at_.2] | 18 => vv = .tuple #[.bool (couldR x.bare y.bare).1, .int .i64 (couldR x.bare y.bare).2.1, .int .i64 (couldR x.bare y.bare).2.2.1] | 27 => vv = .bool (couldR x.bare y.bare).1 | 28 => vv = .int .i64 (couldR x.bare y.bare).2.1 | 29 => vv = .int .i64 (couldR x.bare y.bare).2.2.1 | 6 => vv = .bool (couldR x.bare y.bare).1 | 7 => vv = .int .i64 (couldR x.bare y.bare).2.1 | 8 => vv = .int .i64 (couldR x.bare y.bare).2.2.1 | _ => True : Prop)) (CdS (fun k => k < w4.heap.size) bb O0 x y w5) (by kernel_rfl) rfl (by kernel_rfl) (by kernel_rfl) (by kernel_rfl) (by kernel_rfl) (fun w h => h) (fun hs w w' h T => CdS.turned0 hs w w' h T) ?hs ?hQ
  case hs =>
    refine ⟨?s0, ?s1, ?s2, ?s3, ?s4, ?s5, ?s6, ?s7, ?s8, ?s9, ?s10, ?s11, ?s12, ?s13, ?s14, trivial⟩
    case s0 =>
      refine fun hs hle => stepG_free [] [5] (by kernel_rfl) rfl ?_
      intro ac W hT hI hO
      have hle : hs.length ≤ 2 := hle
      have h5 : ac.tmps.getD 5 undef = .pointer (some ⟨bb, 0, none⟩) := hO 5 (by simp)
      show Brings Try.prog (fun vv w' => Turned (fun _ => False) W w' ∧ vv = .pointer (some ⟨bb, 0, none⟩)) _
      simp only [execOp, Act.eval, h5]
      go_simp
      try exact ⟨Turned.refl _ _, rfl⟩
    case s1 =>
      refine fun hs hle => stepG_free [] [5] (by kernel_rfl) rfl ?_
      intro ac W hT hI hO
      have hle : hs.length ≤ 0 := hle
      have h5 : ac.tmps.getD 5 undef = .pointer (some ⟨bb, 0, none⟩) := hO 5 (by simp)
      show Brings Try.prog (fun vv w' => Turned (fun _ => False) W w' ∧ vv = .pointer (some ⟨bb, 0, none⟩)) _
      simp only [execOp, Act.eval, h5]
      go_simp
      try exact ⟨Turned.refl _ _, rfl⟩
    case s2 =>
      refine fun hs hle => stepG_free [] [2] (by kernel_rfl) rfl ?_
      intro ac W hT hI hO
      have hle : hs.length ≤ 0 := hle
      have h2 : ac.tmps.getD 2 undef = .pointer (some ⟨w.heap.size, 0, none⟩) := hO 2 (by simp)
      show Brings Try.prog (fun vv w' => Turned (fun _ => False) W w' ∧ vv = .agg #[.int .i64 x.kind, .int .i64 x.n, .string x.name, .slice x.at_.1 x.args.length x.at_.2]) _
      obtain ⟨⟨c0, c1, c2, c3⟩, d0, d1, d2, d3⟩ := HKW.out W (CdS.turned hs W hT)
      simp only [execOp, Act.eval, h2]
      go_simp
      try exact ⟨Turned.refl _ _, rfl⟩
    case s3 =>
      refine fun hs hlen => stepG_free [20, 21] [] (by kernel_rfl) rfl ?_
      intro ac W hT hI hO
      have h20 : ac.tmps.getD 20 undef = .pointer (some ⟨bb, 0, none⟩) := hI 20 (by simp)
      have h21 : ac.tmps.getD 21 undef = .agg #[.int .i64 x.kind, .int .i64 x.n, .string x.name, .slice x.at_.1 x.args.length x.at_.2] := hI 21 (by simp)
      obtain rfl : hs = [] := List.eq_nil_of_length_eq_zero hlen
      replace hT : Turned (fun _ => False) w5 W := hT
      show Brings Try.prog (fun vv w' => CdS (fun k => k < w4.heap.size) bb O0 x y w5 [vv] w') _
      have hrn := renamed155 (HB5.out.turned0 hT) (HXI.out.turned0 hT) HG.out (by omega)
      rw [LT.val_eq] at hrn
      have HRN := Lib.hid hrn
      clear hrn
      simp only [execOp, Act.eval, h20, h21]
      go_simp
      show Calls Try.prog 155 _ W _
      (with_reducible refine HRN.out.mono ?_)
      rintro e w' ⟨u, O', rfl, g1, g2, g3, g4, g5⟩
      exact ⟨_, rfl, u, O', by rw [LT.val_eq], g1, g2, fun k hk hl => g3 k hk (Nat.lt_of_lt_of_le hl hT.size), (hT.mono (fun _ _ f => f.elim)).trans g4, g5.mono (fun k _ hk => hk.elim .inl (fun hk => .inr ⟨Nat.le_trans hT.size hk.1, hk.2⟩))⟩
    case s4 =>
      refine fun hs hle => stepG_free [] [5] (by kernel_rfl) rfl ?_
      intro ac W hT hI hO
      have hle : hs.length ≤ 1 := hle
      have h5 : ac.tmps.getD 5 undef = .pointer (some ⟨bb, 0, none⟩) := hO 5 (by simp)
      show Brings Try.prog (fun vv w' => Turned (fun _ => False) W w' ∧ vv = .pointer (some ⟨bb, 0, none⟩)) _
      simp only [execOp, Act.eval, h5]
      go_simp
      try exact ⟨Turned.refl _ _, rfl⟩
    case s5 =>
      refine fun hs hle => stepG_free [] [3] (by kernel_rfl) rfl ?_
      intro ac W hT hI hO
      have hle : hs.length ≤ 1 := hle
      have h3 : ac.tmps.getD 3 undef = .pointer (some ⟨w.heap.size + 1, 0, none⟩) := hO 3 (by simp)
      show Brings Try.prog (fun vv w' => Turned (fun _ => False) W w' ∧ vv = .agg #[.int .i64 y.kind, .int .i64 y.n, .string y.name, .slice y.at_.1 y.args.length y.at_.2]) _
      obtain ⟨⟨c0, c1, c2, c3⟩, d0, d1, d2, d3⟩ := HKW.out W (CdS.turned hs W hT)
      simp only [execOp, Act.eval, h3]
      go_simp
      try exact ⟨Turned.refl _ _, rfl⟩
    case s6 =>
      refine fun hs hlen => stepG_free [23, 24] [] (by kernel_rfl) rfl ?_
      intro ac W hT hI hO
      have h23 : ac.tmps.getD 23 undef = .pointer (some ⟨bb, 0, none⟩) := hI 23 (by simp)
      have h24 : ac.tmps.getD 24 undef = .agg #[.int .i64 y.kind, .int .i64 y.n, .string y.name, .slice y.at_.1 y.args.length y.at_.2] := hI 24 (by simp)
      obtain ⟨a, rfl⟩ := List.length_eq_one_iff.1 hlen
      obtain ⟨u, O', a1, a2, a3, a4, a5, a6⟩ := hT
      show Brings Try.prog (fun vv w' => CdS (fun k => k < w4.heap.size) bb O0 x y w5 [a, vv] w') _
      subst a1
      have hyw : y.In (fun k => k < w4.heap.size) W := LT.In.turned a5 (fun k _ hk e => HPO.out k hk e) (fun _ _ hk => hk) _ HYI.out
      have hrn := renamed155 a3 hyw HGY.out (by omega)
      rw [LT.val_eq] at hrn
      have HRN := Lib.hid hrn
      have HTC := Lib.hid (And.intro a2 (And.intro a3 (And.intro a4 (And.intro a5 a6))))
      clear hrn hyw a2 a3 a4 a5 a6
      simp only [execOp, Act.eval, h23, h24]
      go_simp
      show Calls Try.prog 155 _ W _
      (with_reducible refine HRN.out.mono ?_)
      rintro e w' ⟨v, O2, rfl, g1, g2, g3, g4, g5⟩
      refine ⟨_, rfl, ?_⟩
      rw [LT.val_eq]
      exact cd_two HTC.out.1 HTC.out.2.1 HTC.out.2.2.1 HTC.out.2.2.2.1 HTC.out.2.2.2.2 g1 g2 g3 g4 g5
    case s7 =>
      refine fun hs hlen => stepG_free [19, 22, 25] [] (by kernel_rfl) rfl ?_
      intro ac W hT hI hO
      have h19 : ac.tmps.getD 19 undef = .pointer (some ⟨bb, 0, none⟩) := hI 19 (by simp)
      have h22 : hs[0]? = some (ac.tmps.getD 22 undef) := hI 22 (by simp)
      have h25 : hs[1]? = some (ac.tmps.getD 25 undef) := hI 25 (by simp)
      obtain ⟨a, b, rfl⟩ := list2' hlen
      obtain ⟨u, v, q, O', a1, a2, a3, a4, a5, a6, a7, a8, a9⟩ := hT
      have e22 : a = ac.tmps.getD 22 undef := by simpa using h22
      have e25 : b = ac.tmps.getD 25 undef := by simpa using h25
      rw [e22] at a1
      rw [e25] at a2
      show Brings Try.prog (fun vv w' => CdS (fun k => k < w4.heap.size) bb O0 x y w5 [a, b, vv] w') _
      have hgx : goodB x.bare = true := by rw [goodB_bare]; exact HG.out
      have hgy : goodB y.bare = true := by rw [goodB_bare]; exact HGY.out
      have su : slim u := good_slim (by rw [← goodB_bare, a3]; exact goodB_fromT hgx (by omega) (by rw [Tm.vars_bare]; omega))
      have sv : slim v := good_slim (by rw [← goodB_bare, a4]; exact goodB_fromT hgy (by omega) (by rw [Tm.vars_bare]; omega))
      have hbo := bothO110 a5 a8 su a9 sv
      rw [a3, a4, LT.val_eq, LT.val_eq] at hbo
      have hcr : bothR (0 + x.vars.length + y.vars.length) (bt []) (Tm.fromT x.bare ((0 : Nat) : Int)) (Tm.fromT y.bare ((0 + x.vars.length : Nat) : Int)) = couldR x.bare y.bare := by unfold couldR; rw [Tm.vars_bare, Tm.vars_bare]; rfl
      rw [hcr] at hbo
      have HBO := Lib.hid hbo
      have HA7 := Lib.hid a7
      have HA6 := Lib.hid a6
      clear hbo hcr su sv hgx hgy a3 a4 a5 a6 a7 a8 a9 e22 e25
      simp only [execOp, Act.eval, h19, a1, a2]
      go_simp
      show Calls Try.prog 110 _ W _
      (with_reducible refine HBO.out.mono ?_)
      rintro e w' ⟨rfl, l2, _, O2, b1, b2, b3⟩
      exact ⟨_, rfl, rfl, HA7.out.step b3 (fun i hi e => HA6.out i e hi)⟩
    case s8 =>
      refine fun hs hle => stepG_free [26] [] (by kernel_rfl) rfl ?_
      intro ac W hT hI hO
      have hle : hs.length ≤ 3 := hle
      have h26 : hs[2]? = some (ac.tmps.getD 26 undef) := hI 26 (by simp)
      show Brings Try.prog (fun vv w' => Turned (fun _ => False) W w' ∧ vv = .tuple #[.bool (couldR x.bare y.bare).1, .int .i64 (couldR x.bare y.bare).2.1, .int .i64 (couldR x.bare y.bare).2.2.1]) _
      have e26 := CdS.val hs W hT h26
      simp only [execOp, Act.eval, e26]
      go_simp
      try exact ⟨Turned.refl _ _, rfl⟩
    case s9 =>
      refine fun hs hle => stepG_free [18] [] (by kernel_rfl) rfl ?_
      intro ac W hT hI hO
      have hle : hs.length ≤ 3 := hle
      have h18 : ac.tmps.getD 18 undef = .tuple #[.bool (couldR x.bare y.bare).1, .int .i64 (couldR x.bare y.bare).2.1, .int .i64 (couldR x.bare y.bare).2.2.1] := hI 18 (by simp)
      show Brings Try.prog (fun vv w' => Turned (fun _ => False) W w' ∧ vv = .bool (couldR x.bare y.bare).1) _
      simp only [execOp, Act.eval, h18]
      go_simp
      try exact ⟨Turned.refl _ _, rfl⟩
    case s10 =>
      refine fun hs hle => stepG_free [18] [] (by kernel_rfl) rfl ?_
      intro ac W hT hI hO
      have hle : hs.length ≤ 3 := hle
      have h18 : ac.tmps.getD 18 undef = .tuple #[.bool (couldR x.bare y.bare).1, .int .i64 (couldR x.bare y.bare).2.1, .int .i64 (couldR x.bare y.bare).2.2.1] := hI 18 (by simp)
      show Brings Try.prog (fun vv w' => Turned (fun _ => False) W w' ∧ vv = .int .i64 (couldR x.bare y.bare).2.1) _
      simp only [execOp, Act.eval, h18]
      go_simp
      try exact ⟨Turned.refl _ _, rfl⟩
    case s11 =>
      refine fun hs hle => stepG_free [18] [] (by kernel_rfl) rfl ?_
      intro ac W hT hI hO
      have hle : hs.length ≤ 3 := hle
      have h18 : ac.tmps.getD 18 undef = .tuple #[.bool (couldR x.bare y.bare).1, .int .i64 (couldR x.bare y.bare).2.1, .int .i64 (couldR x.bare y.bare).2.2.1] := hI 18 (by simp)
      show Brings Try.prog (fun vv w' => Turned (fun _ => False) W w' ∧ vv = .int .i64 (couldR x.bare y.bare).2.2.1) _
      simp only [execOp, Act.eval, h18]
      go_simp
      try exact ⟨Turned.refl _ _, rfl⟩
    case s12 =>
      refine fun hs hle => stepG_free [27] [] (by kernel_rfl) rfl ?_
      intro ac W hT hI hO
      have hle : hs.length ≤ 3 := hle
      have h27 : ac.tmps.getD 27 undef = .bool (couldR x.bare y.bare).1 := hI 27 (by simp)
      show Brings Try.prog (fun vv w' => Turned (fun _ => False) W w' ∧ vv = .bool (couldR x.bare y.bare).1) _
      simp only [execOp, Act.eval, h27]
      go_simp
      try exact ⟨Turned.refl _ _, rfl⟩
    case s13 =>
      refine fun hs hle => stepG_free [28] [] (by kernel_rfl) rfl ?_
      intro ac W hT hI hO
      have hle : hs.length ≤ 3 := hle
      have h28 : ac.tmps.getD 28 undef = .int .i64 (couldR x.bare y.bare).2.1 := hI 28 (by simp)
      show Brings Try.prog (fun vv w' => Turned (fun _ => False) W w' ∧ vv = .int .i64 (couldR x.bare y.bare).2.1) _
      simp only [execOp, Act.eval, h28]
      go_simp
      try exact ⟨Turned.refl _ _, rfl⟩
    case s14 =>
      refine fun hs hle => stepG_free [29] [] (by kernel_rfl) rfl ?_
      intro ac W hT hI hO
      have hle : hs.length ≤ 3 := hle
      have h29 : ac.tmps.getD 29 undef = .int .i64 (couldR x.bare y.bare).2.2.1 := hI 29 (by simp)
      show Brings Try.prog (fun vv w' => Turned (fun _ => False) W w' ∧ vv = .int .i64 (couldR x.bare y.bare).2.2.1) _
      simp only [execOp, Act.eval, h29]
      go_simp
      try exact ⟨Turned.refl _ _, rfl⟩
  case hQ =>
    intro hs vs w6 hlen hRS hV
    have T6 := CdS.turned hs w6 hRS
    have q6 : vs 6 = .bool ok := by rw [← HOKE.out]; exact hV 6 (by simp)
    have q8 : vs 8 = .int .i64 er := by rw [← HERE.out]; exact hV 8 (by simp)
    simp only [List.foldl_cons, List.foldl_nil, List.setIfInBounds_toArray, List.set_cons_zero, List.set_cons_succ, q6, q8]
    clear hV q6 q8 hRS
    have hfin : Turned (fun _ => False) w w6 := (HT2.out.trans (HT4.out.trans HT45.out)).step T6 (fun i hi e => by have := HO0.out i e; have := (HT2.out.trans HT4.out).size; omega)
    have HF := Lib.hid hfin
    clear hfin T6
    cases ok with
    | false =>
      go_wp2_with fail
      go_ret
      exact ⟨by rw [HRB.out]; rfl, HF.out⟩
    | true =>
      by_cases he : er = 0
      · subst he
        go_wp2_with fail
        go_ret
        exact ⟨by rw [HRB.out]; rfl, HF.out⟩
      · have de : (er == 0) = false := by simp [he]
        have hrb : RB = false := by rw [HRB.out, decide_eq_false he]; rfl
        have HE := Lib.hid hrb
        clear he hrb
        go_wp2_with fail
        go_ret
        exact ⟨by rw [HE.out]; rfl, HF.out⟩
end Go.Proofs.Ytoihjobdfjajfaa
namespace Go.Proofs.Ytoihjobdfjajfaa
open Go.RowKit Go.Maps
set_option linter.unusedVariables false
set_option linter.unusedSimpArgs false
namespace Tm
abbrev ukF : Tm Unit := .mk 2 0 ⟨#[102]⟩ () [V 0]
abbrev ukI (n : Int) : Tm Unit := .mk 1 n ByteArray.empty () []
abbrev ukX : Tm Unit := .mk 2 0 ⟨#[102]⟩ () [V 2, ukI 1]
abbrev ukY : Tm Unit := .mk 2 0 ⟨#[102]⟩ () [ukI 2, ukI 3]
abbrev ukG : Tm Unit := .mk 2 0 ⟨#[102]⟩ () [.mk 2 0 ⟨#[103]⟩ () [V 0]]
abbrev ukG1 : Tm Unit := .mk 2 0 ⟨#[102]⟩ () [.mk 2 0 ⟨#[103]⟩ () [V 1]]
abbrev uk1 : Trail := [(3, V 1)]
def ukD (j : Nat) : Tm Unit := .mk 2 0 ⟨#[100]⟩ () [V ((j + 1 : Nat) : Int), V ((j + 1 : Nat) : Int)]
def ukL : Nat → Trail
  | 0 => uk1
  | j + 1 => (((j + 5 : Nat) : Int), ukD (j + 5)) :: ukL j
abbrev ukE : Trail := (25, ukD 5) :: ukL 15
theorem uk_a : unify [] 2000 [(V 0, ukF)] = .no 1997 := by
  rw [unify_no (left := 1999) (q := 1997) (by rw [walk_free (show look [] 0 = none from rfl), walk_node [] (show ¬ ukF.kind = 0 by decide)]; kernel_rfl)]
theorem uk_b : unify [] 2000 [(V 3, V 1)] = .ok uk1 1999 := by
  rw [unify_ok (left := 1999) (l' := uk1) (left' := 1999) (by rw [walk_free (show look [] 3 = none from rfl), walk_free (show look [] 1 = none from rfl)]; kernel_rfl)]
  rfl
theorem uk_i : unify uk1 2000 [(ukX, ukY)] = .no 1996 := by
  rw [unify_more (left := 1999) (ps := [(V 2, ukI 2), (ukI 1, ukI 3)]) (by rw [walk_node uk1 (show ¬ ukX.kind = 0 by decide), walk_node uk1 (show ¬ ukY.kind = 0 by decide)]; kernel_rfl)]
  rw [show [(V 2, ukI 2), (ukI 1, ukI 3)] ++ [] = [(V 2, ukI 2), (ukI 1, ukI 3)] from rfl]
  rw [unify_ok (left := 1998) (l' := [(2, ukI 2), (3, V 1)]) (left' := 1997) (by rw [walk_free (show look uk1 2 = none by kernel_rfl), walk_node uk1 (show ¬ (ukI 2).kind = 0 by decide)]; kernel_rfl)]
  rw [unify_no (left := 1996) (q := 1996) (by rw [walk_node _ (show ¬ (ukI 1).kind = 0 by decide), walk_node _ (show ¬ (ukI 3).kind = 0 by decide)]; kernel_rfl)]
theorem uk_ok1 : okT 21 uk1 := by
  have h := unify_spec (m := 21) (by omega) (2000 + 1) [] 2000 [(V 3, V 1)] trivial (fun p hp => by rw [List.mem_singleton] at hp; rw [hp]; exact ⟨by kernel_rfl, by kernel_rfl⟩) _ uk_b
  exact h.1
theorem uk_set21 : ∀ j, j < 15 → setE 21 (ukL j) ((j + 5 : Nat) : Int) (ukD (j + 5)) = 0 := by
  have : (List.range 15).all (fun j => decide (setE 21 (ukL j) ((j + 5 : Nat) : Int) (ukD (j + 5)) = 0)) = true := by kernel_rfl
  intro j hj
  rw [List.all_eq_true] at this
  simpa using this j (List.mem_range.2 hj)
theorem uk_set40 : ∀ j, j < 15 → setE 40 (ukL j) ((j + 5 : Nat) : Int) (ukD (j + 5)) = 0 := by
  have : (List.range 15).all (fun j => decide (setE 40 (ukL j) ((j + 5 : Nat) : Int) (ukD (j + 5)) = 0)) = true := by kernel_rfl
  intro j hj
  rw [List.all_eq_true] at this
  simpa using this j (List.mem_range.2 hj)
theorem uk_okL : ∀ j, j ≤ 15 → okT 21 (ukL j)
  | 0, _ => uk_ok1
  | j + 1, h => setE_ok (uk_okL j (by omega)) (uk_set21 j (by omega))
theorem ukD_nums {j : Nat} {v : Int} (h : numsIn (ukD j) v) : v = ((j + 1 : Nat) : Int) := by
  obtain ⟨x, hx, hk, rfl⟩ := h
  rw [show (ukD j).flat = [ukD j, V ((j + 1 : Nat) : Int), V ((j + 1 : Nat) : Int)] from rfl] at hx
  simp only [List.mem_cons, List.not_mem_nil, or_false] at hx
  rcases hx with rfl | rfl | rfl
  · exact absurd hk (show ¬ ((2 : Int) = 0) by decide)
  · rfl
  · rfl
theorem uk_set25 : setE 40 (ukL 15) 25 (ukD 5) = 0 := by
  unfold setE
  rw [if_pos ⟨by omega, by omega, by kernel_rfl⟩, if_neg (show ¬ (25 : Int) ∈ dom (ukL 15) from of_decide_eq_false (by kernel_rfl)), if_neg]
  intro hm
  have h := img_lt (uk_okL 15 (Nat.le_refl _)) (t := ukD 5) (good_leafy (by kernel_rfl)) (fun v hv => by rw [ukD_nums hv]; omega) 25 ((vars_mem _).1 hm)
  omega
theorem uk_okE : okT 40 ukE := setE_ok ((uk_okL 15 (Nat.le_refl _)).more (by omega)) uk_set25
theorem uk_look : ∀ k, k < 15 → look ukE ((19 - k : Nat) : Int) = some (ukD (19 - k)) := by
  intro k hk
  match k, hk with
  | 0, _ => exact (show look ukE ((19 - 0 : Nat) : Int) = some (ukD (19 - 0)) by kernel_rfl)
  | 1, _ => exact (show look ukE ((19 - 1 : Nat) : Int) = some (ukD (19 - 1)) by kernel_rfl)
  | 2, _ => exact (show look ukE ((19 - 2 : Nat) : Int) = some (ukD (19 - 2)) by kernel_rfl)
  | 3, _ => exact (show look ukE ((19 - 3 : Nat) : Int) = some (ukD (19 - 3)) by kernel_rfl)
  | 4, _ => exact (show look ukE ((19 - 4 : Nat) : Int) = some (ukD (19 - 4)) by kernel_rfl)
  | 5, _ => exact (show look ukE ((19 - 5 : Nat) : Int) = some (ukD (19 - 5)) by kernel_rfl)
  | 6, _ => exact (show look ukE ((19 - 6 : Nat) : Int) = some (ukD (19 - 6)) by kernel_rfl)
  | 7, _ => exact (show look ukE ((19 - 7 : Nat) : Int) = some (ukD (19 - 7)) by kernel_rfl)
  | 8, _ => exact (show look ukE ((19 - 8 : Nat) : Int) = some (ukD (19 - 8)) by kernel_rfl)
  | 9, _ => exact (show look ukE ((19 - 9 : Nat) : Int) = some (ukD (19 - 9)) by kernel_rfl)
  | 10, _ => exact (show look ukE ((19 - 10 : Nat) : Int) = some (ukD (19 - 10)) by kernel_rfl)
  | 11, _ => exact (show look ukE ((19 - 11 : Nat) : Int) = some (ukD (19 - 11)) by kernel_rfl)
  | 12, _ => exact (show look ukE ((19 - 12 : Nat) : Int) = some (ukD (19 - 12)) by kernel_rfl)
  | 13, _ => exact (show look ukE ((19 - 13 : Nat) : Int) = some (ukD (19 - 13)) by kernel_rfl)
  | 14, _ => exact (show look ukE ((19 - 14 : Nat) : Int) = some (ukD (19 - 14)) by kernel_rfl)
theorem uk_tree : ∀ (k : Nat), k ≤ 15 → ∀ (left : Nat) (r : List (Tm Unit × Tm Unit)),
    unify ukE left ((V ((20 - k : Nat) : Int), V ((20 - k : Nat) : Int)) :: r) = .over ∨ ∃ left', left' + 2 ^ k ≤ left ∧ unify ukE left ((V ((20 - k : Nat) : Int), V ((20 - k : Nat) : Int)) :: r) = unify ukE left' r := by
  intro k
  induction k with
  | zero =>
    intro _ left r
    cases left with
    | zero => exact .inl (unify_zero _ _ _)
    | succ left =>
      refine .inr ⟨left, Nat.le_refl _, ?_⟩
      rw [unify_ok (l' := ukE) (left' := left)]
      rw [walk_free (show look ukE ((20 - 0 : Nat) : Int) = none by kernel_rfl)]
      unfold oneU
      rw [if_pos (show (V _).kind = 0 from rfl), if_pos (show (V _).kind = 0 from rfl), if_pos rfl]
  | succ k ih =>
    intro hk left r
    cases left with
    | zero => exact .inl (unify_zero _ _ _)
    | succ left =>
      have hl := uk_look k (by omega)
      have hw : walkT ukE (V ((19 - k : Nat) : Int)) = ukD (19 - k) := by
        rw [walkT_step uk_okE (t := V ((19 - k : Nat) : Int)) (p := ukD (19 - k)) rfl hl, walk_node _ (show ¬ (ukD (19 - k)).kind = 0 from (show ¬ ((2 : Int) = 0) by decide))]
      have he : 19 - k + 1 = 20 - k := by omega
      rw [show 20 - (k + 1) = 19 - k by omega]
      rw [unify_more (ps := [(V ((20 - k : Nat) : Int), V ((20 - k : Nat) : Int)), (V ((20 - k : Nat) : Int), V ((20 - k : Nat) : Int))]) (by
        rw [hw]
        unfold oneU
        rw [if_neg (show ¬ (ukD (19 - k)).kind = 0 from (show ¬ ((2 : Int) = 0) by decide)), if_neg (show ¬ (ukD (19 - k)).kind = 0 from (show ¬ ((2 : Int) = 0) by decide)), if_pos (headsB_iff.2 ⟨rfl, rfl, rfl, rfl⟩)]
        show UStep.more [(V ((19 - k + 1 : Nat) : Int), V ((19 - k + 1 : Nat) : Int)), (V ((19 - k + 1 : Nat) : Int), V ((19 - k + 1 : Nat) : Int))] = _
        rw [he])]
      simp only [List.cons_append, List.nil_append]
      rcases ih (by omega) left ((V ((20 - k : Nat) : Int), V ((20 - k : Nat) : Int)) :: r) with h1 | ⟨l1, a1, h1⟩
      · exact .inl h1
      · rw [h1]
        rcases ih (by omega) l1 r with h2 | ⟨l2, a2, h2⟩
        · exact .inl h2
        · refine .inr ⟨l2, ?_, h2⟩
          rw [Nat.pow_succ]
          omega
theorem uk_l : unify ukE 2000 [(V 25, V 5)] = .over := by
  have h5 : walkT ukE (V 5) = ukD 5 := by
    rw [walkT_step uk_okE (t := V 5) (p := ukD 5) rfl (uk_look 14 (by omega)), walk_node _ (show ¬ (ukD 5).kind = 0 by decide)]
  have h25 : walkT ukE (V 25) = ukD 5 := by
    rw [walkT_step uk_okE (t := V 25) (p := ukD 5) rfl rfl, walk_node _ (show ¬ (ukD 5).kind = 0 by decide)]
  rw [unify_more (left := 1999) (ps := [(V 6, V 6), (V 6, V 6)]) (by
    rw [h5, h25]
    unfold oneU
    rw [if_neg (show ¬ (ukD 5).kind = 0 by decide), if_neg (show ¬ (ukD 5).kind = 0 by decide), if_pos (headsB_iff.2 ⟨rfl, rfl, rfl, rfl⟩)]
    rfl)]
  rcases uk_tree 14 (by omega) 1999 [(V 6, V 6)] with h | ⟨l1, a1, h1⟩
  · exact h
  · have : (2 : Nat) ^ 14 = 16384 := by decide
    omega
theorem uk_could : unify [] 2000 [(ukF, ukG1)] = .ok [(0, .mk 2 0 ⟨#[103]⟩ () [V 1])] 1996 := by
  rw [unify_more (left := 1999) (ps := [(V 0, .mk 2 0 ⟨#[103]⟩ () [V 1])]) (by rw [walk_node [] (show ¬ ukF.kind = 0 by decide), walk_node [] (show ¬ ukG1.kind = 0 by decide)]; kernel_rfl)]
  rw [show [(V 0, Tm.mk 2 0 ⟨#[103]⟩ () [V 1])] ++ [] = [(V 0, Tm.mk 2 0 ⟨#[103]⟩ () [V 1])] from rfl]
  rw [unify_ok (left := 1998) (l' := [(0, .mk 2 0 ⟨#[103]⟩ () [V 1])]) (left' := 1996) (by rw [walk_free (show look [] 0 = none from rfl), walk_node [] (show ¬ (Tm.mk 2 0 ⟨#[103]⟩ () [V 1]).kind = 0 by decide)]; kernel_rfl)]
  rfl
theorem uk_atoms : unify [] 2000 [(awA, awB)] = .no 1999 := by
  rw [unify_no (left := 1999) (q := 1999) (by rw [walk_node _ (show ¬ awA.kind = 0 by decide), walk_node _ (show ¬ awB.kind = 0 by decide)]; kernel_rfl)]
end Tm
theorem uk_A : bothR 40 [] (Tm.V 0) Tm.ukF = (false, 3, 0, []) := by
  unfold bothR; rw [if_pos ⟨by kernel_rfl, by kernel_rfl⟩, Tm.uk_a]; rfl
theorem uk_B : bothR 40 [] (Tm.V 3) (Tm.V 1) = (true, 1, 0, Tm.uk1) := by
  unfold bothR; rw [if_pos ⟨by kernel_rfl, by kernel_rfl⟩, Tm.uk_b]; rfl
theorem uk_H : bothR 40 Tm.uk1 (Tm.V 40) (Tm.ukI 1) = (false, 0, 1, Tm.uk1) := by
  unfold bothR; rw [if_neg (fun h => absurd h.1 (by rw [show Tm.ownB 40 (Tm.V 40) = false by kernel_rfl]; decide))]
theorem uk_I : bothR 40 Tm.uk1 Tm.ukX Tm.ukY = (false, 4, 0, Tm.uk1) := by
  unfold bothR; rw [if_pos ⟨by kernel_rfl, by kernel_rfl⟩, Tm.uk_i]; rfl
theorem uk_L : bothR 40 Tm.ukE (Tm.V 25) (Tm.V 5) = (false, 0, 12, Tm.ukE) := by
  unfold bothR; rw [if_pos ⟨by kernel_rfl, by kernel_rfl⟩, Tm.uk_l]
theorem uk_G : Tm.walkT Tm.uk1 (Tm.V 3) = Tm.V 1 := by
  rw [Tm.walkT_step (Tm.uk_ok1) (t := Tm.V 3) (p := Tm.V 1) rfl rfl, Tm.walk_free (show Tm.look Tm.uk1 1 = none by kernel_rfl)]
theorem uk_C1 : couldB Tm.ukF Tm.ukG = true := by
  unfold couldB couldR bothR
  rw [show Tm.fromT Tm.ukF ((0 : Nat) : Int) = Tm.ukF by kernel_rfl, show Tm.fromT Tm.ukG ((0 + Tm.ukF.vars.length : Nat) : Int) = Tm.ukG1 by kernel_rfl, if_pos ⟨by kernel_rfl, by kernel_rfl⟩, Tm.uk_could]
  kernel_rfl
theorem uk_C2 : couldB Tm.awA Tm.awB = false := by
  unfold couldB couldR bothR
  rw [show Tm.fromT Tm.awA ((0 : Nat) : Int) = Tm.awA by kernel_rfl, show Tm.fromT Tm.awB ((0 + Tm.awA.vars.length : Nat) : Int) = Tm.awB by kernel_rfl, if_pos ⟨by kernel_rfl, by kernel_rfl⟩, Tm.uk_atoms]
  kernel_rfl
theorem uk_C3 (y : Tm Unit) : couldB (.mk 7 0 ByteArray.empty () []) y = false := by
  unfold couldB
  rw [show goodB (Tm.mk 7 0 ByteArray.empty () [] : Tm Unit) = false by kernel_rfl]
  rfl
end Go.Proofs.Ytoihjobdfjajfaa
namespace Go.Proofs.Ytoihjobdfjajfaa
open Go.RowKit Go.Maps
set_option linter.unusedVariables false
set_option linter.unusedSimpArgs false
theorem both40 (w : World) : Calls Try.prog 109 #[.int .i64 40] w fun e w' => ∃ bb wb, e = .returned (.tuple #[.pointer (some ⟨bb, 0, none⟩), .pointer (some ⟨wb, 0, none⟩)]) ∧ BK 40 bb [] [] [] w w' ∧ Turned (fun _ => False) w w' := by
  refine (both109 40 (by omega) w).mono ?_
  rintro e w' ⟨bb, wb, rfl, h⟩
  exact ⟨bb, wb, rfl, BK.start h.binds, h.old⟩
theorem slim_twoU (s : ByteArray) (d : Option Addr × Nat) (m n : Int) (e : ByteArray) : slim (Tm.mk 2 0 s d [leaf 0 m e, leaf 0 n e] : LT) := by
  intro x hx
  rw [show (Tm.mk 2 0 s d [leaf 0 m e, leaf 0 n e] : LT).flat = [Tm.mk 2 0 s d [leaf 0 m e, leaf 0 n e], leaf 0 m e, leaf 0 n e] from rfl] at hx
  simp only [List.mem_cons, List.not_mem_nil, or_false] at hx
  rcases hx with rfl | rfl | rfl <;> simp [Tm.args, leaf]
theorem uk_y {bb : Nat} {bx : List (Nat × Obj)} {ts : List LT} {wA w1 w : World} {j : Nat} {a : Option Addr} {c : Nat} (h : BK 40 bb (Tm.ukL j) bx ts wA w1) (T : Turned (fun _ => False) w1 w) (hj : j < 15)
    (hx : LT.In (fun k => w1.heap.size ≤ k) w (Tm.mk 2 0 ⟨#[100]⟩ (a, c) [leaf 0 ((j : Int) + 5 + 1) ByteArray.empty, leaf 0 ((j : Int) + 5 + 1) ByteArray.empty])) :
    Calls Try.prog 88 #[.pointer (some ⟨bb, 0, none⟩), .int .i64 ((j : Int) + 5), .agg #[.int .i64 2, .int .i64 0, .string ⟨#[100]⟩, .slice a 2 c]] w fun e w' => e = .returned (.int .i64 0) ∧ BK 40 bb (Tm.ukL (j + 1)) bx ts wA w' := by
  have hb : (Tm.mk 2 0 ⟨#[100]⟩ (a, c) [leaf 0 ((j : Int) + 5 + 1) ByteArray.empty, leaf 0 ((j : Int) + 5 + 1) ByteArray.empty] : LT).bare = Tm.ukD (j + 5) := by
    show Tm.mk 2 0 ⟨#[100]⟩ () [Tm.V ((j : Int) + 5 + 1), Tm.V ((j : Int) + 5 + 1)] = Tm.mk 2 0 ⟨#[100]⟩ () [Tm.V ((j + 5 + 1 : Nat) : Int), Tm.V ((j + 5 + 1 : Nat) : Int)]
    rw [show ((j + 5 + 1 : Nat) : Int) = (j : Int) + 5 + 1 by omega]
  have hE := Tm.uk_set40 j hj
  rw [show ((j + 5 : Nat) : Int) = (j : Int) + 5 by omega, ← hb] at hE
  refine (h.set T hx (slim_twoU _ _ _ _ _) ((j : Int) + 5) (by unfold I64; omega) hE).mono ?_
  rintro e w' ⟨h1, h2⟩
  refine ⟨h1, ?_⟩
  rw [hb] at h2
  show BK 40 bb ((((j + 5 : Nat) : Int), Tm.ukD (j + 5)) :: Tm.ukL j) bx ts wA w'
  rw [show ((j + 5 : Nat) : Int) = (j : Int) + 5 by omega]
  exact h2
theorem uk_n0 : Tm.ukL 0 = Tm.uk1 := rfl
theorem uk_set25n {n : Nat} (hn : n = 15) {x : Tm Unit} (hx : x = Tm.ukD 5) : Tm.setE 40 (Tm.ukL n) 25 x = 0 := by subst hn hx; exact Tm.uk_set25
theorem uk_Ln {n : Nat} (hn : n = 15) : bothR 40 ((25, Tm.ukD 5) :: Tm.ukL n) (leaf 0 25 ByteArray.empty).bare (leaf 0 5 ByteArray.empty).bare = (false, 0, 12, (25, Tm.ukD 5) :: Tm.ukL n) := by subst hn; exact uk_L
theorem uk_comp {wr W : World} {j b : Nat} (hj : j < 15) (hb : b = W.heap.size) (T : Turned (fun _ => False) wr W) :
    Calls Try.prog 37 #[.string ⟨#[100]⟩, .slice (some ⟨b, 0, none⟩) 2 2] (W.alloc (.cells #[.int .i64 0, .int .i64 ((j : Int) + 5 + 1), .string ByteArray.empty, .slice none 0 0, .int .i64 0, .int .i64 ((j : Int) + 5 + 1), .string ByteArray.empty, .slice none 0 0] 27)) fun e w' => ∃ a' c', e = .returned (.agg #[.int .i64 2, .int .i64 0, .string ⟨#[100]⟩, .slice a' 2 c']) ∧ LT.In (fun k => wr.heap.size ≤ k) w' (Tm.mk 2 0 ⟨#[100]⟩ (a', c') [leaf 0 ((j : Int) + 5 + 1) ByteArray.empty, leaf 0 ((j : Int) + 5 + 1) ByteArray.empty]) ∧ Turned (fun _ => False) wr w' := by
  subst hb
  refine (compN (N := wr.heap.size) (l := [leaf 0 ((j : Int) + 5 + 1) ByteArray.empty, leaf 0 ((j : Int) + 5 + 1) ByteArray.empty]) ⟨#[100]⟩ (by unfold maxLen; decide) 2 (by decide) rfl ⟨leafIn' (i64_lit _ (by omega)) (by unfold I64; omega) (by unfold maxLen; decide), leafIn' (i64_lit _ (by omega)) (by unfold I64; omega) (by unfold maxLen; decide), trivial⟩ T.size _ rfl).mono ?_
  rintro e w' ⟨a, c, h1, h2, h3⟩
  exact ⟨a, c, h1, h2, T.trans h3⟩
theorem alloc_nextU (W : World) (o : Obj) : W.heap.size + 1 = (W.alloc o).heap.size := by
  show _ = (W.heap.push o).size
  rw [Array.size_push]
theorem brings_build1u {o : Oper} {a : Act} {w : World} {F : Value → World → Prop} (x : Tmp) (ho : o.op = Op.buildSlice 22 1 #[(0, .tmp x)]) {a0 a1 a2 a3 : Value} (hx : a.tmps.getD x undef = .agg #[a0, a1, a2, a3])
    (h : F (.slice (some ⟨w.heap.size, 0, none⟩) 1 1) (w.alloc (.cells #[a0, a1, a2, a3] 27))) : Brings Try.prog F ((execOp a.eval o).run Try.prog w) := by
  have hx' : a.tmps[x]?.getD undef = .agg #[a0, a1, a2, a3] := by rw [← Array.getD_eq_getD_getElem?]; exact hx
  simp only [execOp, ho, Act.eval]
  go_simp
  exact h
theorem brings_build7u {o : Oper} {a : Act} {w : World} {F : Value → World → Prop} (ho : o.op = Op.build 27 #[(0, .const (.int .i64 7))])
    (h : F (.agg #[.int .i64 7, .int .i64 0, .string ByteArray.empty, .slice none 0 0]) w) : Brings Try.prog F ((execOp a.eval o).run Try.prog w) := by
  unfold execOp
  simp only [ho, List.map_toArray, List.map_cons, List.map_nil, Act.eval]
  go_simp
  exact h
theorem uk_var (n : Int) (hn : I64 n) (w : World) : Calls Try.prog 62 #[.int .i64 n] w fun e w' => e = .returned (.agg #[.int .i64 0, .int .i64 n, .string ByteArray.empty, .slice none 0 0]) ∧ Turned (fun _ => False) w w' := (varV n hn w).mono (fun _ _ h => ⟨h.1, h.2.2⟩)
theorem uk_could {u q : LT} {w : World} (hu : u.In (fun _ => True) w) (hq : q.In (fun _ => True) w) (hs : slim u) (hs' : slim q) {b : Bool} (h : couldB u.bare q.bare = b) :
    Calls Try.prog 112 #[.agg #[.int .i64 u.kind, .int .i64 u.n, .string u.name, .slice u.at_.1 u.args.length u.at_.2], .agg #[.int .i64 q.kind, .int .i64 q.n, .string q.name, .slice q.at_.1 q.args.length q.at_.2]] w fun e w' => e = .returned (.bool b) ∧ Turned (fun _ => False) w w' := by
  have := could112 hu hs hq hs'
  rw [LT.val_eq, LT.val_eq, h] at this
  exact this
theorem uk_could1 {w : World} {a : Option Addr × Nat} {q : (Option Addr × Nat) × (Option Addr × Nat)} (hu : LT.In (fun _ => True) w (Tm.mk 2 0 ⟨#[102]⟩ a [leaf 0 0 ByteArray.empty])) (hq : LT.In (fun _ => True) w (Tm.mk 2 0 ⟨#[102]⟩ q.1 [Tm.mk 2 0 ⟨#[103]⟩ q.2 [leaf 0 0 ByteArray.empty]])) :
    Calls Try.prog 112 #[.agg #[.int .i64 2, .int .i64 0, .string ⟨#[102]⟩, .slice a.1 1 a.2], .agg #[.int .i64 2, .int .i64 0, .string ⟨#[102]⟩, .slice q.1.1 1 q.1.2]] w fun e w' => e = .returned (.bool true) ∧ Turned (fun _ => False) w w' :=
  uk_could (u := Tm.mk 2 0 ⟨#[102]⟩ a [leaf 0 0 ByteArray.empty]) (q := Tm.mk 2 0 ⟨#[102]⟩ q.1 [Tm.mk 2 0 ⟨#[103]⟩ q.2 [leaf 0 0 ByteArray.empty]]) hu hq (good_slimB (by kernel_rfl)) (good_slimB (by kernel_rfl)) uk_C1
theorem uk_could2 (w : World) : Calls Try.prog 112 #[.agg #[.int .i64 2, .int .i64 0, .string ⟨#[97]⟩, .slice none 0 0], .agg #[.int .i64 2, .int .i64 0, .string ⟨#[98]⟩, .slice none 0 0]] w fun e w' => e = .returned (.bool false) ∧ Turned (fun _ => False) w w' :=
  uk_could (u := leaf 2 0 ⟨#[97]⟩) (q := leaf 2 0 ⟨#[98]⟩) (leafIn' (i64_lit _ (by omega)) (i64_lit _ (by omega)) (by unfold maxLen; decide)) (leafIn' (i64_lit _ (by omega)) (i64_lit _ (by omega)) (by unfold maxLen; decide)) (leaf_slim _ _ _) (leaf_slim _ _ _) uk_C2
theorem uk_could3 (w : World) : Calls Try.prog 112 #[.agg #[.int .i64 7, .int .i64 0, .string ByteArray.empty, .slice none 0 0], .agg #[.int .i64 2, .int .i64 0, .string ⟨#[98]⟩, .slice none 0 0]] w fun e w' => e = .returned (.bool false) ∧ Turned (fun _ => False) w w' :=
  uk_could (u := leaf 7 0 ByteArray.empty) (q := leaf 2 0 ⟨#[98]⟩) (leafIn' (i64_lit _ (by omega)) (i64_lit _ (by omega)) (by unfold maxLen; decide)) (leafIn' (i64_lit _ (by omega)) (i64_lit _ (by omega)) (by unfold maxLen; decide)) (leaf_slim _ _ _) (leaf_slim _ _ _) (uk_C3 _)
def UkS (v : Value) (W : World) : Prop := ∃ q : Option Addr × Nat, v = .slice q.1 1 q.2 ∧ LT.Sl (fun _ => True) W q.1 q.2 [leaf 0 0 ByteArray.empty] ∧ True
def UkC (s : ByteArray) (v : Value) (W : World) : Prop := ∃ q : Option Addr × Nat, v = .agg #[.int .i64 2, .int .i64 0, .string s, .slice q.1 1 q.2] ∧ LT.In (fun _ => True) W (Tm.mk 2 0 s q [leaf 0 0 ByteArray.empty]) ∧ True
def UkG (v : Value) (W : World) : Prop := ∃ q : (Option Addr × Nat) × (Option Addr × Nat), v = .slice q.1.1 1 q.1.2 ∧ LT.Sl (fun _ => True) W q.1.1 q.1.2 [Tm.mk 2 0 ⟨#[103]⟩ q.2 [leaf 0 0 ByteArray.empty]] ∧ True
def UkF (v : Value) (W : World) : Prop := ∃ q : (Option Addr × Nat) × (Option Addr × Nat), v = .agg #[.int .i64 2, .int .i64 0, .string ⟨#[102]⟩, .slice q.1.1 1 q.1.2] ∧ LT.In (fun _ => True) W (Tm.mk 2 0 ⟨#[102]⟩ q.1 [Tm.mk 2 0 ⟨#[103]⟩ q.2 [leaf 0 0 ByteArray.empty]]) ∧ True
attribute [local irreducible] Tm.ukL
set_option maxRecDepth 100000 in
set_option maxHeartbeats 12800000 in
theorem unifyKnown (w : World) : Calls Try.prog 23 #[] w fun e w' => e = .returned (.bool true) ∧ Turned (fun _ => False) w w' := by
  go_enter Try.func23, Try.ntmps23
  go_wp2_with (first
    | (go_at_call 111; have := G21; refine (BK.mark (H21.out.turned0 (Turned.refl (fun _ => False) _))).mono ?_; rintro e w22 ⟨rfl, T22⟩; have G22 : True := trivial)
    | (go_at_call 110; have := G20; refine (H14.out.both (x := (Tm.mk 2 0 ⟨#[102]⟩ (a17, c17) [(leaf 0 2 ByteArray.empty), (leaf 1 1 ByteArray.empty)])) (y := (Tm.mk 2 0 ⟨#[102]⟩ (a20, c20) [(leaf 1 2 ByteArray.empty), (leaf 1 3 ByteArray.empty)])) (((((((Turned.refl (fun _ => False) _).trans T15).trans T16).trans T17).trans T18).trans T19).trans T20) ((((i17.turned0 T18).turned0 T19).turned0 T20)) (good_slimB (by kernel_rfl)) (i20) (good_slimB (by kernel_rfl)) uk_I).mono ?_; rintro e w21 ⟨rfl, h21⟩; have H21 : Hid (BK 40 bb Tm.uk1 [(w11.heap.size, .cells #[.int .i64 g.kind, .int .i64 g.n, .string g.name, .slice g.at_.1 g.args.length g.at_.2] 27)] [g] w1 w21) := h21; clear h21; have G21 : True := trivial)
    | (go_at_call 37; have := G19; refine (compN (N := w14.heap.size) (l := [(leaf 1 2 ByteArray.empty), (leaf 1 3 ByteArray.empty)]) ⟨#[102]⟩ (by unfold maxLen; decide) 2 (by decide) rfl ⟨leafIn' (i64_lit _ (by omega)) (i64_lit _ (by omega)) (by unfold maxLen; decide), leafIn' (i64_lit _ (by omega)) (i64_lit _ (by omega)) (by unfold maxLen; decide), trivial⟩ ((((((Turned.refl (fun _ => False) _).trans T15).trans T16).trans T17).trans T18).trans T19).size _ rfl).mono ?_; rintro e w20 ⟨a20, c20, rfl, i20, T20⟩; have G20 : True := trivial)
    | (go_at_call 61; have := G18; refine (intV 3 (i64_lit _ (by omega)) _).mono ?_; rintro e w19 ⟨rfl, _, T19⟩; have G19 : True := trivial)
    | (go_at_call 61; have := G17; refine (intV 2 (i64_lit _ (by omega)) _).mono ?_; rintro e w18 ⟨rfl, _, T18⟩; have G18 : True := trivial)
    | (go_at_call 37; have := G16; refine (compN (N := w14.heap.size) (l := [(leaf 0 2 ByteArray.empty), (leaf 1 1 ByteArray.empty)]) ⟨#[102]⟩ (by unfold maxLen; decide) 2 (by decide) rfl ⟨leafIn' (i64_lit _ (by omega)) (i64_lit _ (by omega)) (by unfold maxLen; decide), leafIn' (i64_lit _ (by omega)) (i64_lit _ (by omega)) (by unfold maxLen; decide), trivial⟩ (((Turned.refl (fun _ => False) _).trans T15).trans T16).size _ rfl).mono ?_; rintro e w17 ⟨a17, c17, rfl, i17, T17⟩; have G17 : True := trivial)
    | (go_at_call 61; have := G15; refine (intV 1 (i64_lit _ (by omega)) _).mono ?_; rintro e w16 ⟨rfl, _, T16⟩; have G16 : True := trivial)
    | (go_at_call 62; have := G14; refine (varV 2 (i64_lit _ (by omega)) _).mono ?_; rintro e w15 ⟨rfl, _, T15⟩; have G15 : True := trivial)
    | (go_at_call 110; have := G13; refine (H11.out.both (x := (leaf 0 40 ByteArray.empty)) (y := (leaf 1 1 ByteArray.empty)) (((Turned.refl (fun _ => False) _).trans T12).trans T13) (leafIn' (i64_lit _ (by omega)) (i64_lit _ (by omega)) (by unfold maxLen; decide)) (leaf_slim _ _ _) (leafIn' (i64_lit _ (by omega)) (i64_lit _ (by omega)) (by unfold maxLen; decide)) (leaf_slim _ _ _) uk_H).mono ?_; rintro e w14 ⟨rfl, h14⟩; have H14 : Hid (BK 40 bb Tm.uk1 [(w11.heap.size, .cells #[.int .i64 g.kind, .int .i64 g.n, .string g.name, .slice g.at_.1 g.args.length g.at_.2] 27)] [g] w1 w14) := h14; clear h14; have G14 : True := trivial)
    | (go_at_call 61; have := G12; refine (intV 1 (i64_lit _ (by omega)) _).mono ?_; rintro e w13 ⟨rfl, _, T13⟩; have G13 : True := trivial)
    | (go_at_call 62; have := G11; refine (varV 40 (i64_lit _ (by omega)) _).mono ?_; rintro e w12 ⟨rfl, _, T12⟩; have G12 : True := trivial)
    | (go_at_call 90; have := G10; refine (H9.out.walk (x := (leaf 0 3 ByteArray.empty)) ((Turned.refl (fun _ => False) _).trans T10) (leafIn' (i64_lit _ (by omega)) (i64_lit _ (by omega)) (by unfold maxLen; decide)) (Tm.good_ones' (by kernel_rfl)) uk_G).mono ?_; rintro e w11 ⟨g, rfl, hub, hbk, _⟩; have HUg := Lib.hid hub; have hb11 := hbk.box (.cells #[.int .i64 g.kind, .int .i64 g.n, .string g.name, .slice g.at_.1 g.args.length g.at_.2] 27); have H11 : Hid (BK 40 bb Tm.uk1 [(w11.heap.size, .cells #[.int .i64 g.kind, .int .i64 g.n, .string g.name, .slice g.at_.1 g.args.length g.at_.2] 27)] [g] w1 (w11.alloc (.cells #[.int .i64 g.kind, .int .i64 g.n, .string g.name, .slice g.at_.1 g.args.length g.at_.2] 27))) := hb11; clear hub hbk hb11; have G11 : True := trivial)
    | (go_at_call 62; have := G9; refine (varV 3 (i64_lit _ (by omega)) _).mono ?_; rintro e w10 ⟨rfl, _, T10⟩; have G10 : True := trivial)
    | (go_at_call 110; have := G8; refine (H6.out.both (x := (leaf 0 3 ByteArray.empty)) (y := (leaf 0 1 ByteArray.empty)) (((Turned.refl (fun _ => False) _).trans T7).trans T8) (leafIn' (i64_lit _ (by omega)) (i64_lit _ (by omega)) (by unfold maxLen; decide)) (leaf_slim _ _ _) (leafIn' (i64_lit _ (by omega)) (i64_lit _ (by omega)) (by unfold maxLen; decide)) (leaf_slim _ _ _) uk_B).mono ?_; rintro e w9 ⟨rfl, h9⟩; have H9 : Hid (BK 40 bb Tm.uk1 [] [] w1 w9) := h9; clear h9; have G9 : True := trivial)
    | (go_at_call 62; have := G7; refine (varV 1 (i64_lit _ (by omega)) _).mono ?_; rintro e w8 ⟨rfl, _, T8⟩; have G8 : True := trivial)
    | (go_at_call 62; have := G6; refine (varV 3 (i64_lit _ (by omega)) _).mono ?_; rintro e w7 ⟨rfl, _, T7⟩; have G7 : True := trivial)
    | (go_at_call 110; have := G5; refine (H2.out.both (x := (leaf 0 0 ByteArray.empty)) (y := (Tm.mk 2 0 ⟨#[102]⟩ (a5, c5) [(leaf 0 0 ByteArray.empty)])) ((((Turned.refl (fun _ => False) _).trans T3).trans T4).trans T5) (leafIn' (i64_lit _ (by omega)) (i64_lit _ (by omega)) (by unfold maxLen; decide)) (leaf_slim _ _ _) (i5) (good_slimB (by kernel_rfl)) uk_A).mono ?_; rintro e w6 ⟨rfl, h6⟩; have H6 : Hid (BK 40 bb [] [] [] w1 w6) := h6; clear h6; have G6 : True := trivial)
    | (go_at_call 37; have := G4; refine (compN (N := w2.heap.size) (l := [(leaf 0 0 ByteArray.empty)]) ⟨#[102]⟩ (by unfold maxLen; decide) 1 (by decide) rfl ⟨leafIn' (i64_lit _ (by omega)) (i64_lit _ (by omega)) (by unfold maxLen; decide), trivial⟩ (((Turned.refl (fun _ => False) _).trans T3).trans T4).size _ rfl).mono ?_; rintro e w5 ⟨a5, c5, rfl, i5, T5⟩; have G5 : True := trivial)
    | (go_at_call 62; have := G3; refine (varV 0 (i64_lit _ (by omega)) _).mono ?_; rintro e w4 ⟨rfl, _, T4⟩; have G4 : True := trivial)
    | (go_at_call 62; have := G2; refine (varV 0 (i64_lit _ (by omega)) _).mono ?_; rintro e w3 ⟨rfl, _, T3⟩; have G3 : True := trivial)
    | (go_at_call 109; have := G1; refine (both40 _).mono ?_; rintro e w2 ⟨bb, wb, rfl, h2, _⟩; have H2 : Hid (BK 40 bb [] [] [] w1 w2) := h2; clear h2; have G2 : True := trivial)
    | (go_at_call 108; refine (awake108 _).mono ?_; rintro e w1 ⟨rfl, T1⟩; have G1 : True := trivial))
  have HB := (Lib.hid (H21.out.turned0 ((Turned.refl (fun _ => False) _).trans T22)))
  rw [← uk_n0] at HB
  clear G1
  go_loopg [17] 15 (fun k i wr => ∃ j : Nat, Hid (j + k = 15) ∧ j ≤ 15 ∧ i = .int .i64 ((j : Int) + 5) ∧ Hid (BK 40 bb (Tm.ukL j) [(w11.heap.size, .cells #[.int .i64 g.kind, .int .i64 g.n, .string g.name, .slice g.at_.1 g.args.length g.at_.2] 27)] [g] w1 wr))
  case atStart => exact ⟨0, Nat.zero_add _, Nat.zero_le _, rfl, HB⟩
  case round =>
    obtain ⟨j, HG, hj, rfl, HI⟩ := hrel
    by_cases hjn : j < 15
    · have dj : decide ((j : Int) + 5 < 20) = true := decide_eq_true (by omega)
      have HJ := Lib.hid hjn
      go_wp2_with (first
        | (go_at_call 88; have := I37; refine (uk_y HI.out T37 HJ.out I37).mono ?_; rintro e W4 ⟨rfl, h4⟩; have H4 := Lib.hid h4; clear h4)
        | (go_at_call 37; have := TV; refine (uk_comp HJ.out (alloc_nextU _ _) (TV.alloc _)).mono ?_; rintro e W3 ⟨a37, c37, rfl, I37, T37⟩)
        | (go_at_call 62; refine (varV ((j : Int) + 5 + 1) (by unfold I64; omega) _).mono ?_; rintro e W2 ⟨rfl, _, TV⟩))
      go_roundg (gk - 1)
      case measure => have := HG.out; omega
      case rel => exact ⟨j + 1, show _ = _ by have := HG.out; omega, by omega, by go_num, H4⟩
    · have HJ : Hid (j = 15) := Lib.hid (by omega)
      have hd : decide ((j : Int) + 5 < 20) = false := decide_eq_false (by omega)
      have HE : Hid (BK 40 bb (Tm.ukL j) [(w11.heap.size, .cells #[.int .i64 g.kind, .int .i64 g.n, .string g.name, .slice g.at_.1 g.args.length g.at_.2] 27)] [g] w1 wr) := HI.out
      clear HI
      go_wp2_with (first
        | (go_at_call 110; have := G106; refine (H104.out.both (x := (leaf 0 25 ByteArray.empty)) (y := (leaf 0 5 ByteArray.empty)) (((Turned.refl (fun _ => False) _).trans T105).trans T106) (leafIn' (i64_lit _ (by omega)) (i64_lit _ (by omega)) (by unfold maxLen; decide)) (leaf_slim _ _ _) (leafIn' (i64_lit _ (by omega)) (i64_lit _ (by omega)) (by unfold maxLen; decide)) (leaf_slim _ _ _) (uk_Ln HJ.out)).mono ?_; rintro e w107 ⟨rfl, h107⟩; have H107 : Hid (BK 40 bb ((25, Tm.ukD 5) :: Tm.ukL j) [(w11.heap.size, .cells #[.int .i64 g.kind, .int .i64 g.n, .string g.name, .slice g.at_.1 g.args.length g.at_.2] 27)] [g] w1 w107) := h107; clear h107; have G107 : True := trivial)
        | (go_at_call 62; have := G105; refine (varV 5 (i64_lit _ (by omega)) _).mono ?_; rintro e w106 ⟨rfl, _, T106⟩; have G106 : True := trivial)
        | (go_at_call 62; have := G104; refine (varV 25 (i64_lit _ (by omega)) _).mono ?_; rintro e w105 ⟨rfl, _, T105⟩; have G105 : True := trivial)
        | (go_at_call 88; have := G103; refine (HE.out.set (x := (Tm.mk 2 0 ⟨#[100]⟩ (a103, c103) [(leaf 0 6 ByteArray.empty), (leaf 0 6 ByteArray.empty)])) ((((Turned.refl (fun _ => False) _).trans T101).trans T102).trans T103) i103 (good_slimB (by kernel_rfl)) 25 (i64_lit _ (by omega)) (uk_set25n HJ.out rfl)).mono ?_; rintro e w104 ⟨rfl, h104⟩; have H104 : Hid (BK 40 bb ((25, Tm.ukD 5) :: Tm.ukL j) [(w11.heap.size, .cells #[.int .i64 g.kind, .int .i64 g.n, .string g.name, .slice g.at_.1 g.args.length g.at_.2] 27)] [g] w1 w104) := h104; clear h104; have G104 : True := trivial)
        | (go_at_call 37; have := G102; refine (compN (N := wr.heap.size) (l := [(leaf 0 6 ByteArray.empty), (leaf 0 6 ByteArray.empty)]) ⟨#[100]⟩ (by unfold maxLen; decide) 2 (by decide) rfl ⟨leafIn' (i64_lit _ (by omega)) (i64_lit _ (by omega)) (by unfold maxLen; decide), leafIn' (i64_lit _ (by omega)) (i64_lit _ (by omega)) (by unfold maxLen; decide), trivial⟩ (((Turned.refl (fun _ => False) _).trans T101).trans T102).size _ rfl).mono ?_; rintro e w103 ⟨a103, c103, rfl, i103, T103⟩; have G103 : True := trivial)
        | (go_at_call 62; have := G101; refine (varV 6 (i64_lit _ (by omega)) _).mono ?_; rintro e w102 ⟨rfl, _, T102⟩; have G102 : True := trivial)
        | (go_at_call 62; refine (varV 6 (i64_lit _ (by omega)) _).mono ?_; rintro e w101 ⟨rfl, _, T101⟩; have G101 : True := trivial))
      have HCg := Lib.hid (fun W (T : Turned (fun _ => False) w107 W) => (H107.out.turned0 T).boxes _ (.head _))
      have HIg := Lib.hid (fun W (T : Turned (fun _ => False) w107 W) => (H107.out.turned0 T).terms g (.head _))
      refine wp_region_ssa' (G := (fun dd vv W => (match dd with | 102 => vv = .bool false | 103 => vv = .bool true | 104 => vv = .bool true | 105 => vv = .int .i64 0 | 106 => vv = .bool true | 107 => vv = .bool true | 108 => vv = .bool true | 109 => vv = .bool true | 110 => vv = .bool true | 111 => vv = .bool true | 112 => vv = .int .i64 1 | 113 => vv = .bool true | 114 => vv = .bool true | 115 => vv = .bool true | 116 => vv = .int .i64 0 | 117 => vv = .bool true | 118 => vv = .bool true | 119 => vv = .bool true | 120 => vv = .agg #[.int .i64 g.kind, .int .i64 g.n, .string g.name, .slice g.at_.1 g.args.length g.at_.2] | 121 => vv = .agg #[.int .i64 0, .int .i64 1, .string ByteArray.empty, .slice none 0 0] | 122 => vv = .bool true | 123 => vv = .bool true | 124 => vv = .bool true | 125 => vv = .int .i64 1 | 126 => vv = .bool true | 127 => vv = .bool true | 128 => vv = .bool true | 129 => vv = .bool false | 130 => vv = .bool true | 131 => vv = .bool true | 132 => vv = .bool true | 133 => vv = .int .i64 4 | 134 => vv = .bool true | 135 => vv = .bool true | 136 => vv = .bool true | 137 => vv = .int .i64 0 | 138 => vv = .bool true | 139 => vv = .bool true | 140 => vv = .bool true | 141 => vv = .int .i64 1 | 142 => vv = .bool true | 143 => vv = .bool true | 144 => vv = .bool true | 145 => vv = .bool false | 146 => vv = .bool true | 147 => vv = .bool true | 148 => vv = .bool true | 149 => vv = .int .i64 0 | 150 => vv = .bool true | 151 => vv = .bool true | 152 => vv = .bool true | 153 => vv = .int .i64 12 | 154 => vv = .bool true | 155 => vv = .bool true | 156 => vv = .bool true | 157 => vv = .agg #[.int .i64 0, .int .i64 0, .string ByteArray.empty, .slice none 0 0] | 160 => vv = .agg #[.int .i64 0, .int .i64 0, .string ByteArray.empty, .slice none 0 0] | 165 => vv = .bool true | 166 => vv = .bool true | 167 => vv = .bool true | 168 => vv = .agg #[.int .i64 2, .int .i64 0, .string ⟨#[97]⟩, .slice none 0 0] | 169 => vv = .agg #[.int .i64 2, .int .i64 0, .string ⟨#[98]⟩, .slice none 0 0] | 170 => vv = .bool false | 171 => vv = .bool true | 172 => vv = .bool true | 173 => vv = .bool true | 174 => vv = .agg #[.int .i64 7, .int .i64 0, .string ByteArray.empty, .slice none 0 0] | 175 => vv = .agg #[.int .i64 2, .int .i64 0, .string ⟨#[98]⟩, .slice none 0 0] | 176 => vv = .bool false | 177 => vv = .bool true | 178 => vv = .bool true | 0 => vv = .bool true | 158 => UkS (vv) W | 161 => UkS (vv) W | 159 => UkC ⟨#[102]⟩ (vv) W | 162 => UkC ⟨#[103]⟩ (vv) W | 163 => UkG (vv) W | 164 => UkF (vv) W | _ => True : Prop))) [102, 103, 104, 105, 106, 107, 108, 109, 110, 111, 112, 113, 114, 115, 116, 117, 118, 119, 120, 121, 122, 123, 124, 125, 126, 127, 128, 129, 130, 131, 132, 133, 134, 135, 136, 137, 138, 139, 140, 141, 142, 143, 144, 145, 146, 147, 148, 149, 150, 151, 152, 153, 154, 155, 156, 157, 158, 159, 160, 161, 162, 163, 164, 165, 166, 167, 168, 169, 170, 171, 172, 173, 174, 175, 176, 177, 178, 0] (by kernel_rfl) rfl (by kernel_rfl) ?hG ?hs ?hQ
      case hG =>
        intro d vv W W2 T h
        split at h <;> first
          | exact h
          | (obtain ⟨x, x1, x2, x3⟩ := h; exact ⟨x, x1, x2.turned0 T, x3⟩)
      case hs =>
        refine ⟨?s0, ?s1, ?s2, ?s3, ?s4, ?s5, ?s6, ?s7, ?s8, ?s9, ?s10, ?s11, ?s12, ?s13, ?s14, ?s15, ?s16, ?s17, ?s18, ?s19, ?s20, ?s21, ?s22, ?s23, ?s24, ?s25, ?s26, ?s27, ?s28, ?s29, ?s30, ?s31, ?s32, ?s33, ?s34, ?s35, ?s36, ?s37, ?s38, ?s39, ?s40, ?s41, ?s42, ?s43, ?s44, ?s45, ?s46, ?s47, ?s48, ?s49, ?s50, ?s51, ?s52, ?s53, ?s54, ?s55, ?s56, ?s57, ?s58, ?s59, ?s60, ?s61, ?s62, ?s63, ?s64, ?s65, ?s66, ?s67, ?s68, ?s69, ?s70, ?s71, ?s72, ?s73, ?s74, ?s75, ?s76, ?s77, trivial⟩
        case s0 =>
          refine stepOk_free [] [3] (by kernel_rfl) rfl ?_
          intro ac W hT hI hO
          have h3 : ac.tmps.getD 3 undef = .bool false := hO 3 (by simp)
          show Brings Try.prog (fun vv w' => Turned (fun _ => False) W w' ∧ vv = .bool false) _
          simp only [execOp, Act.eval, h3]
          go_simp
          try exact ⟨Turned.refl _ _, rfl⟩
        case s1 =>
          refine stepOk_free [102] [] (by kernel_rfl) rfl ?_
          intro ac W hT hI hO
          have h102 : ac.tmps.getD 102 undef = .bool false := hI 102 (by simp)
          show Brings Try.prog (fun vv w' => Turned (fun _ => False) W w' ∧ vv = .bool true) _
          simp only [execOp, Act.eval, h102]
          go_simp
          try exact ⟨Turned.refl _ _, rfl⟩
        case s2 =>
          refine stepOk_free [103] [] (by kernel_rfl) rfl ?_
          intro ac W hT hI hO
          have h103 : ac.tmps.getD 103 undef = .bool true := hI 103 (by simp)
          show Brings Try.prog (fun vv w' => Turned (fun _ => False) W w' ∧ vv = .bool true) _
          simp only [execOp, Act.eval, h103]
          go_simp
          try exact ⟨Turned.refl _ _, rfl⟩
        case s3 =>
          refine stepOk_guard [104] [5] (by kernel_rfl) 2 true 104 rfl rfl (by simp) true true (fun _ _ h => h) (fun hc => ?_) (fun hc => by cases hc)
          intro ac W hT hI hO
          have h5 : ac.tmps.getD 5 undef = .int .i64 0 := hO 5 (by simp)
          show Brings Try.prog (fun vv w' => Turned (fun _ => False) W w' ∧ vv = .int .i64 0) _
          simp only [execOp, Act.eval, h5]
          go_simp
          try exact ⟨Turned.refl _ _, rfl⟩
        case s4 =>
          refine stepOk_guard [105, 104] [] (by kernel_rfl) 2 true 104 rfl rfl (by simp) true true (fun _ _ h => h) (fun hc => ?_) (fun hc => by cases hc)
          intro ac W hT hI hO
          have h105 : ac.tmps.getD 105 undef = .int .i64 0 := hI 105 (by simp)
          show Brings Try.prog (fun vv w' => Turned (fun _ => False) W w' ∧ vv = .bool true) _
          simp only [execOp, Act.eval, h105]
          go_simp
          try exact ⟨Turned.refl _ _, rfl⟩
        case s5 =>
          refine stepOk_free [104, 106] [] (by kernel_rfl) rfl ?_
          intro ac W hT hI hO
          have h104 : ac.tmps.getD 104 undef = .bool true := hI 104 (by simp)
          have h106 : ac.tmps.getD 106 undef = .bool true := hI 106 (by simp)
          show Brings Try.prog (fun vv w' => Turned (fun _ => False) W w' ∧ vv = .bool true) _
          simp only [execOp, Act.eval, h104, h106]
          go_simp
          try exact ⟨Turned.refl _ _, rfl⟩
        case s6 =>
          refine stepOk_free [107] [] (by kernel_rfl) rfl ?_
          intro ac W hT hI hO
          have h107 : ac.tmps.getD 107 undef = .bool true := hI 107 (by simp)
          show Brings Try.prog (fun vv w' => Turned (fun _ => False) W w' ∧ vv = .bool true) _
          simp only [execOp, Act.eval, h107]
          go_simp
          try exact ⟨Turned.refl _ _, rfl⟩
        case s7 =>
          refine stepOk_guard [108] [6] (by kernel_rfl) 6 true 108 rfl rfl (by simp) true true (fun _ _ h => h) (fun hc => ?_) (fun hc => by cases hc)
          intro ac W hT hI hO
          have h6 : ac.tmps.getD 6 undef = .bool true := hO 6 (by simp)
          show Brings Try.prog (fun vv w' => Turned (fun _ => False) W w' ∧ vv = .bool true) _
          simp only [execOp, Act.eval, h6]
          go_simp
          try exact ⟨Turned.refl _ _, rfl⟩
        case s8 =>
          refine stepOk_free [108, 109] [] (by kernel_rfl) rfl ?_
          intro ac W hT hI hO
          have h108 : ac.tmps.getD 108 undef = .bool true := hI 108 (by simp)
          have h109 : ac.tmps.getD 109 undef = .bool true := hI 109 (by simp)
          show Brings Try.prog (fun vv w' => Turned (fun _ => False) W w' ∧ vv = .bool true) _
          simp only [execOp, Act.eval, h108, h109]
          go_simp
          try exact ⟨Turned.refl _ _, rfl⟩
        case s9 =>
          refine stepOk_free [110] [] (by kernel_rfl) rfl ?_
          intro ac W hT hI hO
          have h110 : ac.tmps.getD 110 undef = .bool true := hI 110 (by simp)
          show Brings Try.prog (fun vv w' => Turned (fun _ => False) W w' ∧ vv = .bool true) _
          simp only [execOp, Act.eval, h110]
          go_simp
          try exact ⟨Turned.refl _ _, rfl⟩
        case s10 =>
          refine stepOk_guard [111] [7] (by kernel_rfl) 9 true 111 rfl rfl (by simp) true true (fun _ _ h => h) (fun hc => ?_) (fun hc => by cases hc)
          intro ac W hT hI hO
          have h7 : ac.tmps.getD 7 undef = .int .i64 1 := hO 7 (by simp)
          show Brings Try.prog (fun vv w' => Turned (fun _ => False) W w' ∧ vv = .int .i64 1) _
          simp only [execOp, Act.eval, h7]
          go_simp
          try exact ⟨Turned.refl _ _, rfl⟩
        case s11 =>
          refine stepOk_guard [112, 111] [] (by kernel_rfl) 9 true 111 rfl rfl (by simp) true true (fun _ _ h => h) (fun hc => ?_) (fun hc => by cases hc)
          intro ac W hT hI hO
          have h112 : ac.tmps.getD 112 undef = .int .i64 1 := hI 112 (by simp)
          show Brings Try.prog (fun vv w' => Turned (fun _ => False) W w' ∧ vv = .bool true) _
          simp only [execOp, Act.eval, h112]
          go_simp
          try exact ⟨Turned.refl _ _, rfl⟩
        case s12 =>
          refine stepOk_free [111, 113] [] (by kernel_rfl) rfl ?_
          intro ac W hT hI hO
          have h111 : ac.tmps.getD 111 undef = .bool true := hI 111 (by simp)
          have h113 : ac.tmps.getD 113 undef = .bool true := hI 113 (by simp)
          show Brings Try.prog (fun vv w' => Turned (fun _ => False) W w' ∧ vv = .bool true) _
          simp only [execOp, Act.eval, h111, h113]
          go_simp
          try exact ⟨Turned.refl _ _, rfl⟩
        case s13 =>
          refine stepOk_free [114] [] (by kernel_rfl) rfl ?_
          intro ac W hT hI hO
          have h114 : ac.tmps.getD 114 undef = .bool true := hI 114 (by simp)
          show Brings Try.prog (fun vv w' => Turned (fun _ => False) W w' ∧ vv = .bool true) _
          simp only [execOp, Act.eval, h114]
          go_simp
          try exact ⟨Turned.refl _ _, rfl⟩
        case s14 =>
          refine stepOk_guard [115] [8] (by kernel_rfl) 13 true 115 rfl rfl (by simp) true true (fun _ _ h => h) (fun hc => ?_) (fun hc => by cases hc)
          intro ac W hT hI hO
          have h8 : ac.tmps.getD 8 undef = .int .i64 0 := hO 8 (by simp)
          show Brings Try.prog (fun vv w' => Turned (fun _ => False) W w' ∧ vv = .int .i64 0) _
          simp only [execOp, Act.eval, h8]
          go_simp
          try exact ⟨Turned.refl _ _, rfl⟩
        case s15 =>
          refine stepOk_guard [116, 115] [] (by kernel_rfl) 13 true 115 rfl rfl (by simp) true true (fun _ _ h => h) (fun hc => ?_) (fun hc => by cases hc)
          intro ac W hT hI hO
          have h116 : ac.tmps.getD 116 undef = .int .i64 0 := hI 116 (by simp)
          show Brings Try.prog (fun vv w' => Turned (fun _ => False) W w' ∧ vv = .bool true) _
          simp only [execOp, Act.eval, h116]
          go_simp
          try exact ⟨Turned.refl _ _, rfl⟩
        case s16 =>
          refine stepOk_free [115, 117] [] (by kernel_rfl) rfl ?_
          intro ac W hT hI hO
          have h115 : ac.tmps.getD 115 undef = .bool true := hI 115 (by simp)
          have h117 : ac.tmps.getD 117 undef = .bool true := hI 117 (by simp)
          show Brings Try.prog (fun vv w' => Turned (fun _ => False) W w' ∧ vv = .bool true) _
          simp only [execOp, Act.eval, h115, h117]
          go_simp
          try exact ⟨Turned.refl _ _, rfl⟩
        case s17 =>
          refine stepOk_free [118] [] (by kernel_rfl) rfl ?_
          intro ac W hT hI hO
          have h118 : ac.tmps.getD 118 undef = .bool true := hI 118 (by simp)
          show Brings Try.prog (fun vv w' => Turned (fun _ => False) W w' ∧ vv = .bool true) _
          simp only [execOp, Act.eval, h118]
          go_simp
          try exact ⟨Turned.refl _ _, rfl⟩
        case s18 =>
          refine stepOk_guard [119] [9] (by kernel_rfl) 17 true 119 rfl rfl (by simp) true true (fun _ _ h => h) (fun hc => ?_) (fun hc => by cases hc)
          intro ac W hT hI hO
          have h9 : ac.tmps.getD 9 undef = .pointer (some ⟨w11.heap.size, 0, none⟩) := hO 9 (by simp)
          show Brings Try.prog (fun vv w' => Turned (fun _ => False) W w' ∧ vv = .agg #[.int .i64 g.kind, .int .i64 g.n, .string g.name, .slice g.at_.1 g.args.length g.at_.2]) _
          obtain ⟨c0, c1, c2, c3, _⟩ := cells4 (HCg.out W hT)
          simp only [execOp, Act.eval, h9]
          go_simp
          try exact ⟨Turned.refl _ _, rfl⟩
        case s19 =>
          refine stepOk_guard [119] [] (by kernel_rfl) 17 true 119 rfl rfl (by simp) true true (fun _ _ h => h) (fun hc => ?_) (fun hc => by cases hc)
          intro ac W hT hI hO
          show Brings Try.prog (fun vv w' => Turned (fun _ => False) W w' ∧ vv = .agg #[.int .i64 0, .int .i64 1, .string ByteArray.empty, .slice none 0 0]) _
          simp only [execOp, Act.eval]
          go_simp
          show Calls Try.prog 62 _ W _
          (with_reducible refine (uk_var 1 (i64_lit _ (by omega)) W).mono ?_)
          rintro e w' ⟨rfl, T'⟩
          exact ⟨_, rfl, T', rfl⟩
        case s20 =>
          refine stepOk_guard [120, 121, 119] [] (by kernel_rfl) 17 true 119 rfl rfl (by simp) true true (fun _ _ h => h) (fun hc => ?_) (fun hc => by cases hc)
          intro ac W hT hI hO
          have h120 : ac.tmps.getD 120 undef = .agg #[.int .i64 g.kind, .int .i64 g.n, .string g.name, .slice g.at_.1 g.args.length g.at_.2] := hI 120 (by simp)
          have h121 : ac.tmps.getD 121 undef = .agg #[.int .i64 0, .int .i64 1, .string ByteArray.empty, .slice none 0 0] := hI 121 (by simp)
          show Brings Try.prog (fun vv w' => Turned (fun _ => False) W w' ∧ vv = .bool true) _
          simp only [execOp, Act.eval, h120, h121]
          go_simp
          show Calls Try.prog 52 _ W _
          (with_reducible refine (sameVar (HIg.out W hT) HUg.out (by omega) (by omega)).mono ?_)
          rintro e w' ⟨rfl, T'⟩
          exact ⟨_, rfl, T', rfl⟩
        case s21 =>
          refine stepOk_free [119, 122] [] (by kernel_rfl) rfl ?_
          intro ac W hT hI hO
          have h119 : ac.tmps.getD 119 undef = .bool true := hI 119 (by simp)
          have h122 : ac.tmps.getD 122 undef = .bool true := hI 122 (by simp)
          show Brings Try.prog (fun vv w' => Turned (fun _ => False) W w' ∧ vv = .bool true) _
          simp only [execOp, Act.eval, h119, h122]
          go_simp
          try exact ⟨Turned.refl _ _, rfl⟩
        case s22 =>
          refine stepOk_free [123] [] (by kernel_rfl) rfl ?_
          intro ac W hT hI hO
          have h123 : ac.tmps.getD 123 undef = .bool true := hI 123 (by simp)
          show Brings Try.prog (fun vv w' => Turned (fun _ => False) W w' ∧ vv = .bool true) _
          simp only [execOp, Act.eval, h123]
          go_simp
          try exact ⟨Turned.refl _ _, rfl⟩
        case s23 =>
          refine stepOk_guard [124] [12] (by kernel_rfl) 22 true 124 rfl rfl (by simp) true true (fun _ _ h => h) (fun hc => ?_) (fun hc => by cases hc)
          intro ac W hT hI hO
          have h12 : ac.tmps.getD 12 undef = .int .i64 1 := hO 12 (by simp)
          show Brings Try.prog (fun vv w' => Turned (fun _ => False) W w' ∧ vv = .int .i64 1) _
          simp only [execOp, Act.eval, h12]
          go_simp
          try exact ⟨Turned.refl _ _, rfl⟩
        case s24 =>
          refine stepOk_guard [125, 124] [] (by kernel_rfl) 22 true 124 rfl rfl (by simp) true true (fun _ _ h => h) (fun hc => ?_) (fun hc => by cases hc)
          intro ac W hT hI hO
          have h125 : ac.tmps.getD 125 undef = .int .i64 1 := hI 125 (by simp)
          show Brings Try.prog (fun vv w' => Turned (fun _ => False) W w' ∧ vv = .bool true) _
          simp only [execOp, Act.eval, h125]
          go_simp
          try exact ⟨Turned.refl _ _, rfl⟩
        case s25 =>
          refine stepOk_free [124, 126] [] (by kernel_rfl) rfl ?_
          intro ac W hT hI hO
          have h124 : ac.tmps.getD 124 undef = .bool true := hI 124 (by simp)
          have h126 : ac.tmps.getD 126 undef = .bool true := hI 126 (by simp)
          show Brings Try.prog (fun vv w' => Turned (fun _ => False) W w' ∧ vv = .bool true) _
          simp only [execOp, Act.eval, h124, h126]
          go_simp
          try exact ⟨Turned.refl _ _, rfl⟩
        case s26 =>
          refine stepOk_free [127] [] (by kernel_rfl) rfl ?_
          intro ac W hT hI hO
          have h127 : ac.tmps.getD 127 undef = .bool true := hI 127 (by simp)
          show Brings Try.prog (fun vv w' => Turned (fun _ => False) W w' ∧ vv = .bool true) _
          simp only [execOp, Act.eval, h127]
          go_simp
          try exact ⟨Turned.refl _ _, rfl⟩
        case s27 =>
          refine stepOk_guard [128] [13] (by kernel_rfl) 26 true 128 rfl rfl (by simp) true true (fun _ _ h => h) (fun hc => ?_) (fun hc => by cases hc)
          intro ac W hT hI hO
          have h13 : ac.tmps.getD 13 undef = .bool false := hO 13 (by simp)
          show Brings Try.prog (fun vv w' => Turned (fun _ => False) W w' ∧ vv = .bool false) _
          simp only [execOp, Act.eval, h13]
          go_simp
          try exact ⟨Turned.refl _ _, rfl⟩
        case s28 =>
          refine stepOk_guard [129, 128] [] (by kernel_rfl) 26 true 128 rfl rfl (by simp) true true (fun _ _ h => h) (fun hc => ?_) (fun hc => by cases hc)
          intro ac W hT hI hO
          have h129 : ac.tmps.getD 129 undef = .bool false := hI 129 (by simp)
          show Brings Try.prog (fun vv w' => Turned (fun _ => False) W w' ∧ vv = .bool true) _
          simp only [execOp, Act.eval, h129]
          go_simp
          try exact ⟨Turned.refl _ _, rfl⟩
        case s29 =>
          refine stepOk_free [128, 130] [] (by kernel_rfl) rfl ?_
          intro ac W hT hI hO
          have h128 : ac.tmps.getD 128 undef = .bool true := hI 128 (by simp)
          have h130 : ac.tmps.getD 130 undef = .bool true := hI 130 (by simp)
          show Brings Try.prog (fun vv w' => Turned (fun _ => False) W w' ∧ vv = .bool true) _
          simp only [execOp, Act.eval, h128, h130]
          go_simp
          try exact ⟨Turned.refl _ _, rfl⟩
        case s30 =>
          refine stepOk_free [131] [] (by kernel_rfl) rfl ?_
          intro ac W hT hI hO
          have h131 : ac.tmps.getD 131 undef = .bool true := hI 131 (by simp)
          show Brings Try.prog (fun vv w' => Turned (fun _ => False) W w' ∧ vv = .bool true) _
          simp only [execOp, Act.eval, h131]
          go_simp
          try exact ⟨Turned.refl _ _, rfl⟩
        case s31 =>
          refine stepOk_guard [132] [14] (by kernel_rfl) 30 true 132 rfl rfl (by simp) true true (fun _ _ h => h) (fun hc => ?_) (fun hc => by cases hc)
          intro ac W hT hI hO
          have h14 : ac.tmps.getD 14 undef = .int .i64 4 := hO 14 (by simp)
          show Brings Try.prog (fun vv w' => Turned (fun _ => False) W w' ∧ vv = .int .i64 4) _
          simp only [execOp, Act.eval, h14]
          go_simp
          try exact ⟨Turned.refl _ _, rfl⟩
        case s32 =>
          refine stepOk_guard [133, 132] [] (by kernel_rfl) 30 true 132 rfl rfl (by simp) true true (fun _ _ h => h) (fun hc => ?_) (fun hc => by cases hc)
          intro ac W hT hI hO
          have h133 : ac.tmps.getD 133 undef = .int .i64 4 := hI 133 (by simp)
          show Brings Try.prog (fun vv w' => Turned (fun _ => False) W w' ∧ vv = .bool true) _
          simp only [execOp, Act.eval, h133]
          go_simp
          try exact ⟨Turned.refl _ _, rfl⟩
        case s33 =>
          refine stepOk_free [132, 134] [] (by kernel_rfl) rfl ?_
          intro ac W hT hI hO
          have h132 : ac.tmps.getD 132 undef = .bool true := hI 132 (by simp)
          have h134 : ac.tmps.getD 134 undef = .bool true := hI 134 (by simp)
          show Brings Try.prog (fun vv w' => Turned (fun _ => False) W w' ∧ vv = .bool true) _
          simp only [execOp, Act.eval, h132, h134]
          go_simp
          try exact ⟨Turned.refl _ _, rfl⟩
        case s34 =>
          refine stepOk_free [135] [] (by kernel_rfl) rfl ?_
          intro ac W hT hI hO
          have h135 : ac.tmps.getD 135 undef = .bool true := hI 135 (by simp)
          show Brings Try.prog (fun vv w' => Turned (fun _ => False) W w' ∧ vv = .bool true) _
          simp only [execOp, Act.eval, h135]
          go_simp
          try exact ⟨Turned.refl _ _, rfl⟩
        case s35 =>
          refine stepOk_guard [136] [15] (by kernel_rfl) 34 true 136 rfl rfl (by simp) true true (fun _ _ h => h) (fun hc => ?_) (fun hc => by cases hc)
          intro ac W hT hI hO
          have h15 : ac.tmps.getD 15 undef = .int .i64 0 := hO 15 (by simp)
          show Brings Try.prog (fun vv w' => Turned (fun _ => False) W w' ∧ vv = .int .i64 0) _
          simp only [execOp, Act.eval, h15]
          go_simp
          try exact ⟨Turned.refl _ _, rfl⟩
        case s36 =>
          refine stepOk_guard [137, 136] [] (by kernel_rfl) 34 true 136 rfl rfl (by simp) true true (fun _ _ h => h) (fun hc => ?_) (fun hc => by cases hc)
          intro ac W hT hI hO
          have h137 : ac.tmps.getD 137 undef = .int .i64 0 := hI 137 (by simp)
          show Brings Try.prog (fun vv w' => Turned (fun _ => False) W w' ∧ vv = .bool true) _
          simp only [execOp, Act.eval, h137]
          go_simp
          try exact ⟨Turned.refl _ _, rfl⟩
        case s37 =>
          refine stepOk_free [136, 138] [] (by kernel_rfl) rfl ?_
          intro ac W hT hI hO
          have h136 : ac.tmps.getD 136 undef = .bool true := hI 136 (by simp)
          have h138 : ac.tmps.getD 138 undef = .bool true := hI 138 (by simp)
          show Brings Try.prog (fun vv w' => Turned (fun _ => False) W w' ∧ vv = .bool true) _
          simp only [execOp, Act.eval, h136, h138]
          go_simp
          try exact ⟨Turned.refl _ _, rfl⟩
        case s38 =>
          refine stepOk_free [139] [] (by kernel_rfl) rfl ?_
          intro ac W hT hI hO
          have h139 : ac.tmps.getD 139 undef = .bool true := hI 139 (by simp)
          show Brings Try.prog (fun vv w' => Turned (fun _ => False) W w' ∧ vv = .bool true) _
          simp only [execOp, Act.eval, h139]
          go_simp
          try exact ⟨Turned.refl _ _, rfl⟩
        case s39 =>
          refine stepOk_guard [140] [16] (by kernel_rfl) 38 true 140 rfl rfl (by simp) true true (fun _ _ h => h) (fun hc => ?_) (fun hc => by cases hc)
          intro ac W hT hI hO
          have h16 : ac.tmps.getD 16 undef = .int .i64 1 := hO 16 (by simp)
          show Brings Try.prog (fun vv w' => Turned (fun _ => False) W w' ∧ vv = .int .i64 1) _
          simp only [execOp, Act.eval, h16]
          go_simp
          try exact ⟨Turned.refl _ _, rfl⟩
        case s40 =>
          refine stepOk_guard [141, 140] [] (by kernel_rfl) 38 true 140 rfl rfl (by simp) true true (fun _ _ h => h) (fun hc => ?_) (fun hc => by cases hc)
          intro ac W hT hI hO
          have h141 : ac.tmps.getD 141 undef = .int .i64 1 := hI 141 (by simp)
          show Brings Try.prog (fun vv w' => Turned (fun _ => False) W w' ∧ vv = .bool true) _
          simp only [execOp, Act.eval, h141]
          go_simp
          try exact ⟨Turned.refl _ _, rfl⟩
        case s41 =>
          refine stepOk_free [140, 142] [] (by kernel_rfl) rfl ?_
          intro ac W hT hI hO
          have h140 : ac.tmps.getD 140 undef = .bool true := hI 140 (by simp)
          have h142 : ac.tmps.getD 142 undef = .bool true := hI 142 (by simp)
          show Brings Try.prog (fun vv w' => Turned (fun _ => False) W w' ∧ vv = .bool true) _
          simp only [execOp, Act.eval, h140, h142]
          go_simp
          try exact ⟨Turned.refl _ _, rfl⟩
        case s42 =>
          refine stepOk_free [143] [] (by kernel_rfl) rfl ?_
          intro ac W hT hI hO
          have h143 : ac.tmps.getD 143 undef = .bool true := hI 143 (by simp)
          show Brings Try.prog (fun vv w' => Turned (fun _ => False) W w' ∧ vv = .bool true) _
          simp only [execOp, Act.eval, h143]
          go_simp
          try exact ⟨Turned.refl _ _, rfl⟩
        case s43 =>
          refine stepOk_guard [144] [19] (by kernel_rfl) 42 true 144 rfl rfl (by simp) true true (fun _ _ h => h) (fun hc => ?_) (fun hc => by cases hc)
          intro ac W hT hI hO
          have h19 : ac.tmps.getD 19 undef = .bool false := hO 19 (by simp)
          show Brings Try.prog (fun vv w' => Turned (fun _ => False) W w' ∧ vv = .bool false) _
          simp only [execOp, Act.eval, h19]
          go_simp
          try exact ⟨Turned.refl _ _, rfl⟩
        case s44 =>
          refine stepOk_guard [145, 144] [] (by kernel_rfl) 42 true 144 rfl rfl (by simp) true true (fun _ _ h => h) (fun hc => ?_) (fun hc => by cases hc)
          intro ac W hT hI hO
          have h145 : ac.tmps.getD 145 undef = .bool false := hI 145 (by simp)
          show Brings Try.prog (fun vv w' => Turned (fun _ => False) W w' ∧ vv = .bool true) _
          simp only [execOp, Act.eval, h145]
          go_simp
          try exact ⟨Turned.refl _ _, rfl⟩
        case s45 =>
          refine stepOk_free [144, 146] [] (by kernel_rfl) rfl ?_
          intro ac W hT hI hO
          have h144 : ac.tmps.getD 144 undef = .bool true := hI 144 (by simp)
          have h146 : ac.tmps.getD 146 undef = .bool true := hI 146 (by simp)
          show Brings Try.prog (fun vv w' => Turned (fun _ => False) W w' ∧ vv = .bool true) _
          simp only [execOp, Act.eval, h144, h146]
          go_simp
          try exact ⟨Turned.refl _ _, rfl⟩
        case s46 =>
          refine stepOk_free [147] [] (by kernel_rfl) rfl ?_
          intro ac W hT hI hO
          have h147 : ac.tmps.getD 147 undef = .bool true := hI 147 (by simp)
          show Brings Try.prog (fun vv w' => Turned (fun _ => False) W w' ∧ vv = .bool true) _
          simp only [execOp, Act.eval, h147]
          go_simp
          try exact ⟨Turned.refl _ _, rfl⟩
        case s47 =>
          refine stepOk_guard [148] [20] (by kernel_rfl) 46 true 148 rfl rfl (by simp) true true (fun _ _ h => h) (fun hc => ?_) (fun hc => by cases hc)
          intro ac W hT hI hO
          have h20 : ac.tmps.getD 20 undef = .int .i64 0 := hO 20 (by simp)
          show Brings Try.prog (fun vv w' => Turned (fun _ => False) W w' ∧ vv = .int .i64 0) _
          simp only [execOp, Act.eval, h20]
          go_simp
          try exact ⟨Turned.refl _ _, rfl⟩
        case s48 =>
          refine stepOk_guard [149, 148] [] (by kernel_rfl) 46 true 148 rfl rfl (by simp) true true (fun _ _ h => h) (fun hc => ?_) (fun hc => by cases hc)
          intro ac W hT hI hO
          have h149 : ac.tmps.getD 149 undef = .int .i64 0 := hI 149 (by simp)
          show Brings Try.prog (fun vv w' => Turned (fun _ => False) W w' ∧ vv = .bool true) _
          simp only [execOp, Act.eval, h149]
          go_simp
          try exact ⟨Turned.refl _ _, rfl⟩
        case s49 =>
          refine stepOk_free [148, 150] [] (by kernel_rfl) rfl ?_
          intro ac W hT hI hO
          have h148 : ac.tmps.getD 148 undef = .bool true := hI 148 (by simp)
          have h150 : ac.tmps.getD 150 undef = .bool true := hI 150 (by simp)
          show Brings Try.prog (fun vv w' => Turned (fun _ => False) W w' ∧ vv = .bool true) _
          simp only [execOp, Act.eval, h148, h150]
          go_simp
          try exact ⟨Turned.refl _ _, rfl⟩
        case s50 =>
          refine stepOk_free [151] [] (by kernel_rfl) rfl ?_
          intro ac W hT hI hO
          have h151 : ac.tmps.getD 151 undef = .bool true := hI 151 (by simp)
          show Brings Try.prog (fun vv w' => Turned (fun _ => False) W w' ∧ vv = .bool true) _
          simp only [execOp, Act.eval, h151]
          go_simp
          try exact ⟨Turned.refl _ _, rfl⟩
        case s51 =>
          refine stepOk_guard [152] [21] (by kernel_rfl) 50 true 152 rfl rfl (by simp) true true (fun _ _ h => h) (fun hc => ?_) (fun hc => by cases hc)
          intro ac W hT hI hO
          have h21 : ac.tmps.getD 21 undef = .int .i64 12 := hO 21 (by simp)
          show Brings Try.prog (fun vv w' => Turned (fun _ => False) W w' ∧ vv = .int .i64 12) _
          simp only [execOp, Act.eval, h21]
          go_simp
          try exact ⟨Turned.refl _ _, rfl⟩
        case s52 =>
          refine stepOk_guard [153, 152] [] (by kernel_rfl) 50 true 152 rfl rfl (by simp) true true (fun _ _ h => h) (fun hc => ?_) (fun hc => by cases hc)
          intro ac W hT hI hO
          have h153 : ac.tmps.getD 153 undef = .int .i64 12 := hI 153 (by simp)
          show Brings Try.prog (fun vv w' => Turned (fun _ => False) W w' ∧ vv = .bool true) _
          simp only [execOp, Act.eval, h153]
          go_simp
          try exact ⟨Turned.refl _ _, rfl⟩
        case s53 =>
          refine stepOk_free [152, 154] [] (by kernel_rfl) rfl ?_
          intro ac W hT hI hO
          have h152 : ac.tmps.getD 152 undef = .bool true := hI 152 (by simp)
          have h154 : ac.tmps.getD 154 undef = .bool true := hI 154 (by simp)
          show Brings Try.prog (fun vv w' => Turned (fun _ => False) W w' ∧ vv = .bool true) _
          simp only [execOp, Act.eval, h152, h154]
          go_simp
          try exact ⟨Turned.refl _ _, rfl⟩
        case s54 =>
          refine stepOk_free [155] [] (by kernel_rfl) rfl ?_
          intro ac W hT hI hO
          have h155 : ac.tmps.getD 155 undef = .bool true := hI 155 (by simp)
          show Brings Try.prog (fun vv w' => Turned (fun _ => False) W w' ∧ vv = .bool true) _
          simp only [execOp, Act.eval, h155]
          go_simp
          try exact ⟨Turned.refl _ _, rfl⟩
        case s55 =>
          refine stepOk_guard [156] [] (by kernel_rfl) 54 true 156 rfl rfl (by simp) true true (fun _ _ h => h) (fun hc => ?_) (fun hc => by cases hc)
          intro ac W hT hI hO
          show Brings Try.prog (fun vv w' => Turned (fun _ => False) W w' ∧ vv = .agg #[.int .i64 0, .int .i64 0, .string ByteArray.empty, .slice none 0 0]) _
          simp only [execOp, Act.eval]
          go_simp
          show Calls Try.prog 62 _ W _
          (with_reducible refine (uk_var 0 (i64_lit _ (by omega)) W).mono ?_)
          rintro e w' ⟨rfl, T'⟩
          exact ⟨_, rfl, T', rfl⟩
        case s56 =>
          refine stepOk_guard [157, 156] [] (by kernel_rfl) 54 true 156 rfl rfl (by simp) true true (fun _ _ h => h) (fun hc => ?_) (fun hc => by cases hc)
          intro ac W hT hI hO
          have h157 : ac.tmps.getD 157 undef = .agg #[.int .i64 0, .int .i64 0, .string ByteArray.empty, .slice none 0 0] := hI 157 (by simp)
          show Brings Try.prog (fun vv w' => Turned (fun _ => False) W w' ∧ UkS (vv) w') _
          refine brings_build1u 157 rfl h157 ?_
          exact ⟨(Turned.refl _ W).alloc _, (some ⟨W.heap.size, 0, none⟩, 1), rfl, sl_made (l := [leaf 0 0 ByteArray.empty]) ⟨leafIn' (i64_lit _ (by omega)) (i64_lit _ (by omega)) (by unfold maxLen; decide), trivial⟩ 1 (by decide) rfl _ rfl, trivial⟩
        case s57 =>
          refine stepOk_guard [158, 156] [] (by kernel_rfl) 54 true 156 rfl rfl (by simp) true true (fun _ _ h => h) (fun hc => ?_) (fun hc => by cases hc)
          intro ac W hT hI hO
          have h158 := hI 158 (by simp)
          obtain ⟨q158, h158, x158, _⟩ : UkS (ac.tmps.getD 158 undef) W := h158
          show Brings Try.prog (fun vv w' => Turned (fun _ => False) W w' ∧ UkC ⟨#[102]⟩ (vv) w') _
          simp only [execOp, Act.eval, h158]
          go_simp
          show Calls Try.prog 37 _ W _
          refine (compV ⟨#[102]⟩ (by unfold maxLen; decide) 1 (by decide) rfl x158).mono ?_
          rintro e w' ⟨a', c', rfl, h1, h2⟩
          exact ⟨_, rfl, h2, (a', c'), rfl, h1, trivial⟩
        case s58 =>
          refine stepOk_guard [156] [] (by kernel_rfl) 54 true 156 rfl rfl (by simp) true true (fun _ _ h => h) (fun hc => ?_) (fun hc => by cases hc)
          intro ac W hT hI hO
          show Brings Try.prog (fun vv w' => Turned (fun _ => False) W w' ∧ vv = .agg #[.int .i64 0, .int .i64 0, .string ByteArray.empty, .slice none 0 0]) _
          simp only [execOp, Act.eval]
          go_simp
          show Calls Try.prog 62 _ W _
          (with_reducible refine (uk_var 0 (i64_lit _ (by omega)) W).mono ?_)
          rintro e w' ⟨rfl, T'⟩
          exact ⟨_, rfl, T', rfl⟩
        case s59 =>
          refine stepOk_guard [160, 156] [] (by kernel_rfl) 54 true 156 rfl rfl (by simp) true true (fun _ _ h => h) (fun hc => ?_) (fun hc => by cases hc)
          intro ac W hT hI hO
          have h160 : ac.tmps.getD 160 undef = .agg #[.int .i64 0, .int .i64 0, .string ByteArray.empty, .slice none 0 0] := hI 160 (by simp)
          show Brings Try.prog (fun vv w' => Turned (fun _ => False) W w' ∧ UkS (vv) w') _
          refine brings_build1u 160 rfl h160 ?_
          exact ⟨(Turned.refl _ W).alloc _, (some ⟨W.heap.size, 0, none⟩, 1), rfl, sl_made (l := [leaf 0 0 ByteArray.empty]) ⟨leafIn' (i64_lit _ (by omega)) (i64_lit _ (by omega)) (by unfold maxLen; decide), trivial⟩ 1 (by decide) rfl _ rfl, trivial⟩
        case s60 =>
          refine stepOk_guard [161, 156] [] (by kernel_rfl) 54 true 156 rfl rfl (by simp) true true (fun _ _ h => h) (fun hc => ?_) (fun hc => by cases hc)
          intro ac W hT hI hO
          have h161 := hI 161 (by simp)
          obtain ⟨q161, h161, x161, _⟩ : UkS (ac.tmps.getD 161 undef) W := h161
          show Brings Try.prog (fun vv w' => Turned (fun _ => False) W w' ∧ UkC ⟨#[103]⟩ (vv) w') _
          simp only [execOp, Act.eval, h161]
          go_simp
          show Calls Try.prog 37 _ W _
          refine (compV ⟨#[103]⟩ (by unfold maxLen; decide) 1 (by decide) rfl x161).mono ?_
          rintro e w' ⟨a', c', rfl, h1, h2⟩
          exact ⟨_, rfl, h2, (a', c'), rfl, h1, trivial⟩
        case s61 =>
          refine stepOk_guard [162, 156] [] (by kernel_rfl) 54 true 156 rfl rfl (by simp) true true (fun _ _ h => h) (fun hc => ?_) (fun hc => by cases hc)
          intro ac W hT hI hO
          have h162 := hI 162 (by simp)
          obtain ⟨q162, h162, x162, _⟩ : UkC ⟨#[103]⟩ (ac.tmps.getD 162 undef) W := h162
          show Brings Try.prog (fun vv w' => Turned (fun _ => False) W w' ∧ UkG (vv) w') _
          refine brings_build1u 162 rfl h162 ?_
          exact ⟨(Turned.refl _ W).alloc _, ((some ⟨W.heap.size, 0, none⟩, 1), q162), rfl, sl_made (l := [Tm.mk 2 0 ⟨#[103]⟩ q162 [leaf 0 0 ByteArray.empty]]) ⟨x162, trivial⟩ 1 (by decide) rfl _ rfl, trivial⟩
        case s62 =>
          refine stepOk_guard [163, 156] [] (by kernel_rfl) 54 true 156 rfl rfl (by simp) true true (fun _ _ h => h) (fun hc => ?_) (fun hc => by cases hc)
          intro ac W hT hI hO
          have h163 := hI 163 (by simp)
          obtain ⟨q163, h163, x163, _⟩ : UkG (ac.tmps.getD 163 undef) W := h163
          show Brings Try.prog (fun vv w' => Turned (fun _ => False) W w' ∧ UkF (vv) w') _
          simp only [execOp, Act.eval, h163]
          go_simp
          show Calls Try.prog 37 _ W _
          refine (compV ⟨#[102]⟩ (by unfold maxLen; decide) 1 (by decide) rfl x163).mono ?_
          rintro e w' ⟨a', c', rfl, h1, h2⟩
          exact ⟨_, rfl, h2, ((a', c'), q163.2), rfl, h1, trivial⟩
        case s63 =>
          refine stepOk_guard [159, 164, 156] [] (by kernel_rfl) 54 true 156 rfl rfl (by simp) true true (fun _ _ h => h) (fun hc => ?_) (fun hc => by cases hc)
          intro ac W hT hI hO
          have h159 := hI 159 (by simp)
          obtain ⟨q159, h159, x159, _⟩ : UkC ⟨#[102]⟩ (ac.tmps.getD 159 undef) W := h159
          have h164 := hI 164 (by simp)
          obtain ⟨q164, h164, x164, _⟩ : UkF (ac.tmps.getD 164 undef) W := h164
          show Brings Try.prog (fun vv w' => Turned (fun _ => False) W w' ∧ vv = .bool true) _
          simp only [execOp, Act.eval, h159, h164]
          go_simp
          show Calls Try.prog 112 _ W _
          (with_reducible refine (uk_could1 x159 x164).mono ?_)
          rintro e w' ⟨rfl, T'⟩
          exact ⟨_, rfl, T', rfl⟩
        case s64 =>
          refine stepOk_free [156, 165] [] (by kernel_rfl) rfl ?_
          intro ac W hT hI hO
          have h156 : ac.tmps.getD 156 undef = .bool true := hI 156 (by simp)
          have h165 : ac.tmps.getD 165 undef = .bool true := hI 165 (by simp)
          show Brings Try.prog (fun vv w' => Turned (fun _ => False) W w' ∧ vv = .bool true) _
          simp only [execOp, Act.eval, h156, h165]
          go_simp
          try exact ⟨Turned.refl _ _, rfl⟩
        case s65 =>
          refine stepOk_free [166] [] (by kernel_rfl) rfl ?_
          intro ac W hT hI hO
          have h166 : ac.tmps.getD 166 undef = .bool true := hI 166 (by simp)
          show Brings Try.prog (fun vv w' => Turned (fun _ => False) W w' ∧ vv = .bool true) _
          simp only [execOp, Act.eval, h166]
          go_simp
          try exact ⟨Turned.refl _ _, rfl⟩
        case s66 =>
          refine stepOk_guard [167] [] (by kernel_rfl) 65 true 167 rfl rfl (by simp) true true (fun _ _ h => h) (fun hc => ?_) (fun hc => by cases hc)
          intro ac W hT hI hO
          show Brings Try.prog (fun vv w' => Turned (fun _ => False) W w' ∧ vv = .agg #[.int .i64 2, .int .i64 0, .string ⟨#[97]⟩, .slice none 0 0]) _
          simp only [execOp, Act.eval]
          go_simp
          show Calls Try.prog 63 _ W _
          (with_reducible refine (atomVal ⟨#[97]⟩ (by unfold maxLen; decide) W).mono ?_)
          rintro e w' ⟨rfl, T'⟩
          exact ⟨_, rfl, T', rfl⟩
        case s67 =>
          refine stepOk_guard [167] [] (by kernel_rfl) 65 true 167 rfl rfl (by simp) true true (fun _ _ h => h) (fun hc => ?_) (fun hc => by cases hc)
          intro ac W hT hI hO
          show Brings Try.prog (fun vv w' => Turned (fun _ => False) W w' ∧ vv = .agg #[.int .i64 2, .int .i64 0, .string ⟨#[98]⟩, .slice none 0 0]) _
          simp only [execOp, Act.eval]
          go_simp
          show Calls Try.prog 63 _ W _
          (with_reducible refine (atomVal ⟨#[98]⟩ (by unfold maxLen; decide) W).mono ?_)
          rintro e w' ⟨rfl, T'⟩
          exact ⟨_, rfl, T', rfl⟩
        case s68 =>
          refine stepOk_guard [168, 169, 167] [] (by kernel_rfl) 65 true 167 rfl rfl (by simp) true true (fun _ _ h => h) (fun hc => ?_) (fun hc => by cases hc)
          intro ac W hT hI hO
          have h168 : ac.tmps.getD 168 undef = .agg #[.int .i64 2, .int .i64 0, .string ⟨#[97]⟩, .slice none 0 0] := hI 168 (by simp)
          have h169 : ac.tmps.getD 169 undef = .agg #[.int .i64 2, .int .i64 0, .string ⟨#[98]⟩, .slice none 0 0] := hI 169 (by simp)
          show Brings Try.prog (fun vv w' => Turned (fun _ => False) W w' ∧ vv = .bool false) _
          simp only [execOp, Act.eval, h168, h169]
          go_simp
          show Calls Try.prog 112 _ W _
          (with_reducible refine (uk_could2 W).mono ?_)
          rintro e w' ⟨rfl, T'⟩
          exact ⟨_, rfl, T', rfl⟩
        case s69 =>
          refine stepOk_guard [170, 167] [] (by kernel_rfl) 65 true 167 rfl rfl (by simp) true true (fun _ _ h => h) (fun hc => ?_) (fun hc => by cases hc)
          intro ac W hT hI hO
          have h170 : ac.tmps.getD 170 undef = .bool false := hI 170 (by simp)
          show Brings Try.prog (fun vv w' => Turned (fun _ => False) W w' ∧ vv = .bool true) _
          simp only [execOp, Act.eval, h170]
          go_simp
          try exact ⟨Turned.refl _ _, rfl⟩
        case s70 =>
          refine stepOk_free [167, 171] [] (by kernel_rfl) rfl ?_
          intro ac W hT hI hO
          have h167 : ac.tmps.getD 167 undef = .bool true := hI 167 (by simp)
          have h171 : ac.tmps.getD 171 undef = .bool true := hI 171 (by simp)
          show Brings Try.prog (fun vv w' => Turned (fun _ => False) W w' ∧ vv = .bool true) _
          simp only [execOp, Act.eval, h167, h171]
          go_simp
          try exact ⟨Turned.refl _ _, rfl⟩
        case s71 =>
          refine stepOk_free [172] [] (by kernel_rfl) rfl ?_
          intro ac W hT hI hO
          have h172 : ac.tmps.getD 172 undef = .bool true := hI 172 (by simp)
          show Brings Try.prog (fun vv w' => Turned (fun _ => False) W w' ∧ vv = .bool true) _
          simp only [execOp, Act.eval, h172]
          go_simp
          try exact ⟨Turned.refl _ _, rfl⟩
        case s72 =>
          refine stepOk_guard [173] [] (by kernel_rfl) 71 true 173 rfl rfl (by simp) true true (fun _ _ h => h) (fun hc => ?_) (fun hc => by cases hc)
          intro ac W hT hI hO
          show Brings Try.prog (fun vv w' => Turned (fun _ => False) W w' ∧ vv = .agg #[.int .i64 7, .int .i64 0, .string ByteArray.empty, .slice none 0 0]) _
          refine brings_build7u rfl ?_
          exact ⟨Turned.refl _ W, rfl⟩
        case s73 =>
          refine stepOk_guard [173] [] (by kernel_rfl) 71 true 173 rfl rfl (by simp) true true (fun _ _ h => h) (fun hc => ?_) (fun hc => by cases hc)
          intro ac W hT hI hO
          show Brings Try.prog (fun vv w' => Turned (fun _ => False) W w' ∧ vv = .agg #[.int .i64 2, .int .i64 0, .string ⟨#[98]⟩, .slice none 0 0]) _
          simp only [execOp, Act.eval]
          go_simp
          show Calls Try.prog 63 _ W _
          (with_reducible refine (atomVal ⟨#[98]⟩ (by unfold maxLen; decide) W).mono ?_)
          rintro e w' ⟨rfl, T'⟩
          exact ⟨_, rfl, T', rfl⟩
        case s74 =>
          refine stepOk_guard [174, 175, 173] [] (by kernel_rfl) 71 true 173 rfl rfl (by simp) true true (fun _ _ h => h) (fun hc => ?_) (fun hc => by cases hc)
          intro ac W hT hI hO
          have h174 : ac.tmps.getD 174 undef = .agg #[.int .i64 7, .int .i64 0, .string ByteArray.empty, .slice none 0 0] := hI 174 (by simp)
          have h175 : ac.tmps.getD 175 undef = .agg #[.int .i64 2, .int .i64 0, .string ⟨#[98]⟩, .slice none 0 0] := hI 175 (by simp)
          show Brings Try.prog (fun vv w' => Turned (fun _ => False) W w' ∧ vv = .bool false) _
          simp only [execOp, Act.eval, h174, h175]
          go_simp
          show Calls Try.prog 112 _ W _
          (with_reducible refine (uk_could3 W).mono ?_)
          rintro e w' ⟨rfl, T'⟩
          exact ⟨_, rfl, T', rfl⟩
        case s75 =>
          refine stepOk_guard [176, 173] [] (by kernel_rfl) 71 true 173 rfl rfl (by simp) true true (fun _ _ h => h) (fun hc => ?_) (fun hc => by cases hc)
          intro ac W hT hI hO
          have h176 : ac.tmps.getD 176 undef = .bool false := hI 176 (by simp)
          show Brings Try.prog (fun vv w' => Turned (fun _ => False) W w' ∧ vv = .bool true) _
          simp only [execOp, Act.eval, h176]
          go_simp
          try exact ⟨Turned.refl _ _, rfl⟩
        case s76 =>
          refine stepOk_free [173, 177] [] (by kernel_rfl) rfl ?_
          intro ac W hT hI hO
          have h173 : ac.tmps.getD 173 undef = .bool true := hI 173 (by simp)
          have h177 : ac.tmps.getD 177 undef = .bool true := hI 177 (by simp)
          show Brings Try.prog (fun vv w' => Turned (fun _ => False) W w' ∧ vv = .bool true) _
          simp only [execOp, Act.eval, h173, h177]
          go_simp
          try exact ⟨Turned.refl _ _, rfl⟩
        case s77 =>
          refine stepOk_free [178] [] (by kernel_rfl) rfl ?_
          intro ac W hT hI hO
          have h178 : ac.tmps.getD 178 undef = .bool true := hI 178 (by simp)
          show Brings Try.prog (fun vv w' => Turned (fun _ => False) W w' ∧ vv = .bool true) _
          simp only [execOp, Act.eval, h178]
          go_simp
          try exact ⟨Turned.refl _ _, rfl⟩
      case hQ =>
        intro vs w110 T110 hV
        have q0 : vs 0 = .bool true := hV 0 (by simp)
        simp only [List.foldl_cons, List.foldl_nil, List.setIfInBounds_toArray, List.set_cons_zero, List.set_cons_succ, q0]
        have HT110 := Lib.hid (H107.out.old.trans T110)
        clear hV q0 T110
        go_wp2_with fail
        go_ret
        exact ⟨rfl, T1.trans HT110.out⟩
end Go.Proofs.Ytoihjobdfjajfaa
