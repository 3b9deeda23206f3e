/- Merged texts: UM2, Own114, RL6, UM3, Opens. -/
import Derived.Test.YtoihjobdfjajfaaUm4
import Derived.ProofKit
import Derived.Deep.Strs
import Derived.Lib.SmallJoins
namespace Go.Proofs.Ytoihjobdfjajfaa
open Go.RowKit Go.Maps
set_option linter.unusedVariables false
set_option linter.unusedSimpArgs false
theorem both2 (w : World) : Calls Try.prog 109 #[.int .i64 2] w fun e w' => ∃ bb wb, e = .returned (.tuple #[.pointer (some ⟨bb, 0, none⟩), .pointer (some ⟨wb, 0, none⟩)]) ∧ BDq (fun k => k < w.heap.size) w.heap.size bb wb 2 2 [] [] w w' := both109 2 (by omega) w
theorem BLoop.grown {N bb m : Nat} {l : TL} {w1 wr w' : World} (h : BLoop N bb m l w1 wr) (hN : N = w1.heap.size) (T : Turned (fun _ => False) wr w') : ∃ O, BO (fun k => k < N ∨ (wr.heap.size ≤ k ∧ k < w'.heap.size)) bb O m l w' ∧ (∀ k, O k → N ≤ k) ∧ Turned (fun _ => False) w1 w' := by
  obtain ⟨O, B, hO, T1⟩ := h
  have s1 := T1.size
  have s2 := T.size
  refine ⟨O, (B.turned0 T).wide (fun k hk => .inl hk) (fun k hk => ?_), hO, T1.trans T⟩
  rcases hk with hk | hk
  · exact ⟨by omega, fun c => by have := hO k c; omega⟩
  · exact ⟨hk.2, fun c => by have := B.lt k c; omega⟩
namespace Tm
abbrev awA : Tm Unit := .mk 2 0 ⟨#[97]⟩ () []
abbrev awB : Tm Unit := .mk 2 0 ⟨#[98]⟩ () []
abbrev awX : Tm Unit := .mk 2 0 ⟨#[102]⟩ () [V 0, awB]
abbrev awY : Tm Unit := .mk 2 0 ⟨#[102]⟩ () [awA, V 1]
theorem walk_node (l : Trail) {t : Tm Unit} (h : ¬ t.kind = 0) : walkT l t = t := walkT_stop (fun c => absurd c h)
theorem walk_free {l : Trail} {n : Int} (h : look l n = none) : walkT l (V n) = V n := walkT_stop (fun _ => h)
theorem awUni : unify [] 2000 [(awX, awY)] = .ok [(1, awB), (0, awA)] 1995 := by
  rw [unify_more (left := 1999) (ps := [(V 0, awA), (awB, V 1)]) (by rw [walk_node [] (show ¬ awX.kind = 0 by decide), walk_node [] (show ¬ awY.kind = 0 by decide)]; kernel_rfl)]
  rw [show [(V 0, awA), (awB, V 1)] ++ [] = [(V 0, awA), (awB, V 1)] from rfl]
  rw [unify_ok (left := 1998) (l' := [(0, awA)]) (left' := 1997) (by rw [walk_free (show look [] 0 = none from rfl), walk_node [] (show ¬ awA.kind = 0 by decide)]; kernel_rfl)]
  rw [unify_ok (left := 1996) (l' := [(1, awB), (0, awA)]) (left' := 1995) (by rw [walk_free (show look [(0, awA)] 1 = none by kernel_rfl), walk_node _ (show ¬ awB.kind = 0 by decide)]; kernel_rfl)]
  rfl
theorem awOk : okT 2 [(1, awB), (0, awA)] := by
  have h := unify_spec (m := 2) (by omega) (2000 + 1) [] 2000 [(awX, awY)] trivial (fun p hp => by rw [List.mem_singleton] at hp; rw [hp]; exact ⟨by kernel_rfl, by kernel_rfl⟩) _ awUni
  exact h.1
end Tm
theorem awBoth : bothR 2 [] Tm.awX Tm.awY = (true, 5, 0, [(1, Tm.awB), (0, Tm.awA)]) := by
  unfold bothR
  rw [if_pos ⟨by kernel_rfl, by kernel_rfl⟩, Tm.awUni]
  rfl
theorem awWalk {p O : Nat → Prop} {bb : Nat} {l : TL} {w : World} (n : Int) (t : Tm Unit) (h : BO p bb O 2 l w) (hl : bt l = [(1, Tm.awB), (0, Tm.awA)]) (hn : 0 ≤ n ∧ n < 2) (hk : Tm.look [(1, Tm.awB), (0, Tm.awA)] n = some t) (ht : ¬ t.kind = 0) :
    Calls Try.prog 90 #[.pointer (some ⟨bb, 0, none⟩), .agg #[.int .i64 0, .int .i64 n, .string ByteArray.empty, .slice none 0 0]] w fun e w' => ∃ x : LT, e = .returned (.agg #[.int .i64 x.kind, .int .i64 x.n, .string x.name, .slice x.at_.1 x.args.length x.at_.2]) ∧ x.In p w' ∧ x.bare = t ∧ Turned (fun _ => False) w w' := by
  have hg : goodB (leaf 0 n ByteArray.empty).bare = true := Tm.goodB_V hn.1 (by omega)
  refine (walkO90 h (t := leaf 0 n ByteArray.empty) (var_in (i64_lit _ (by omega))) (Tm.good_ones' hg)).mono ?_
  rintro e w' ⟨x, rfl, hx, hb, T⟩
  refine ⟨x, by rw [LT.val_eq], hx, ?_, T⟩
  rw [hb, hl, Tm.walkT_step Tm.awOk (t := (leaf 0 n ByteArray.empty).bare) (p := t) rfl hk, Tm.walk_node _ ht]
theorem atomVal (s : ByteArray) (hs : s.size ≤ maxLen) (w : World) : Calls Try.prog 63 #[.string s] w fun e w' => e = .returned (.agg #[.int .i64 2, .int .i64 0, .string s, .slice none 0 0]) ∧ Turned (fun _ => False) w w' :=
  (atomV s hs w).mono fun e w' ⟨h1, _, h3⟩ => ⟨h1, h3⟩
theorem sameAtom {x : LT} {w : World} (s : ByteArray) (hx : x.In (fun _ => True) w) (hb : x.bare = .mk 2 0 s () []) (hs : s.size ≤ maxLen) (hg : goodB (Tm.mk 2 0 s () []) = true) :
    Calls Try.prog 52 #[.agg #[.int .i64 x.kind, .int .i64 x.n, .string x.name, .slice x.at_.1 x.args.length x.at_.2], .agg #[.int .i64 2, .int .i64 0, .string s, .slice none 0 0]] w fun e w' => e = .returned (.bool true) ∧ Turned (fun _ => False) w w' :=
  sameVal' (p := fun _ => True) (a := x) (b := leaf 2 0 s) (w := w) (r := true) hx (leafIn' (i64_lit _ (by omega)) (i64_lit _ (by omega)) hs) (good_slimB (by rw [hb]; exact hg)) (leaf_slim _ _ _) (sameB_eq hb (by rw [hb]; exact hg))
set_option maxRecDepth 100000 in
set_option maxHeartbeats 6400000 in
theorem awake108 (w : World) : Calls Try.prog 108 #[] w fun e w' => e = .returned (.bool true) ∧ Turned (fun _ => False) w w' := by
  go_enter Try.func108, Try.ntmps108
  go_wp2_with (first
    | (go_at_call 109; (with_reducible refine (both2 _).mono ?_); rintro e w1 ⟨bb, wb, rfl, h1⟩; have H1 := Lib.hid h1.binds; clear h1)
    | (go_at_call 90; (obtain ⟨O9, l9, q9, hl9, B9, T9⟩ := HB9.out; have HT10 := HT10; (with_reducible refine (awWalk 1 Tm.awB (B9.turned0 (HT10.out.trans HT11.out)) hl9 (by omega) (by kernel_rfl) (by decide)).mono ?_); rintro e w12 ⟨y, rfl, hy, hyb, T12⟩; have HY := Lib.hid (And.intro (hy.mono (q := fun _ => True) (fun _ _ _ => trivial)) hyb); have HT12 := Lib.hid T12; clear hy hyb T12 B9 hl9 T9))
    | (go_at_call 62; have HT10 := HT10; refine (varV 1 (i64_lit _ (by omega)) _).mono ?_; rintro e w11 ⟨rfl, _, T11⟩; have HT11 := Lib.hid T11; clear T11)
    | (go_at_call 90; (obtain ⟨O9, l9, q9, hl9, B9, T9⟩ := HB9.out; (with_reducible refine (awWalk 0 Tm.awA (B9.turned0 HT9.out) hl9 (by omega) (by kernel_rfl) (by decide)).mono ?_); rintro e w10 ⟨x, rfl, hx, hxb, T10⟩; have HX := Lib.hid (And.intro (hx.mono (q := fun _ => True) (fun _ _ _ => trivial)) hxb); have HT10 := Lib.hid (HT9.out.trans T10); clear hx hxb T10 B9 hl9 T9))
    | (go_at_call 62; have HB9 := HB9; refine (varV 0 (i64_lit _ (by omega)) _).mono ?_; rintro e w9b ⟨rfl, _, T9b⟩; have HT9 := Lib.hid T9b; clear T9b)
    | (go_at_call 110; have TT := ((T2.trans T3).trans T4).trans ((T5.trans T6).trans T7); obtain ⟨O1, B7, hO1, T17⟩ := H1.out.grown rfl TT; (refine (bothVal (x := .mk 2 0 ⟨#[102]⟩ (a4, c4) [leaf 0 0 ByteArray.empty, leaf 2 0 ⟨#[98]⟩]) (y := .mk 2 0 ⟨#[102]⟩ (a7, c7) [leaf 2 0 ⟨#[97]⟩, leaf 0 1 ByteArray.empty]) B7 (((i4.turned0 (T5.trans T6)).turned0 T7).mono (fun k hk h => .inr ⟨h, hk⟩)) (good_slimB (by kernel_rfl)) (i7.mono (fun k hk h => .inr ⟨h, hk⟩)) (good_slimB (by kernel_rfl)) awBoth).mono ?_); rintro e w8 ⟨rfl, l8, hl8, O8, B8, hO8, T8⟩; have HB9 : Hid (∃ O9 l9, ∃ q9 : Nat → Prop, bt l9 = [(1, Tm.awB), (0, Tm.awA)] ∧ BO q9 bb O9 2 l9 w8 ∧ Turned (fun _ => False) w w8) := ⟨O8, l8, _, hl8, B8, T17.step T8 (fun i hi e => by have := hO1 i e; omega)⟩; clear B7 hO1 TT hl8 B8 hO8 T8 T17 T2 T3 T4 T5 T6 T7 i4 i7)
    | (go_at_call 37; have := T6; refine (compN (N := w1.heap.size) (l := [leaf 2 0 ⟨#[97]⟩, leaf 0 1 ByteArray.empty]) ⟨#[102]⟩ (by unfold maxLen; decide) 2 (by decide) rfl ⟨leafIn' (i64_lit _ (by omega)) (i64_lit _ (by omega)) (by unfold maxLen; decide), var_in (i64_lit _ (by omega)), trivial⟩ (((T2.trans T3).trans T4).trans (T5.trans T6)).size _ rfl).mono ?_; rintro e w7 ⟨a7, c7, rfl, i7, T7⟩)
    | (go_at_call 62; have := T5; refine (varV 1 (i64_lit _ (by omega)) _).mono ?_; rintro e w6 ⟨rfl, _, T6⟩)
    | (go_at_call 63; have := T4; refine (atomV ⟨#[97]⟩ (by unfold maxLen; decide) _).mono ?_; rintro e w5 ⟨rfl, _, T5⟩)
    | (go_at_call 37; have := T3; refine (compN (N := w1.heap.size) (l := [leaf 0 0 ByteArray.empty, leaf 2 0 ⟨#[98]⟩]) ⟨#[102]⟩ (by unfold maxLen; decide) 2 (by decide) rfl ⟨var_in (i64_lit _ (by omega)), leafIn' (i64_lit _ (by omega)) (i64_lit _ (by omega)) (by unfold maxLen; decide), trivial⟩ (T2.trans T3).size _ rfl).mono ?_; rintro e w4 ⟨a4, c4, rfl, i4, T4⟩)
    | (go_at_call 63; have := T2; refine (atomV ⟨#[98]⟩ (by unfold maxLen; decide) _).mono ?_; rintro e w3 ⟨rfl, _, T3⟩)
    | (go_at_call 62; have := H1; refine (varV 0 (i64_lit _ (by omega)) _).mono ?_; rintro e w2 ⟨rfl, _, T2⟩))
  have h2 := twoBox w12 (.cells #[.int .i64 x.kind, .int .i64 x.n, .string x.name, .slice x.at_.1 x.args.length x.at_.2] 27) (.cells #[.int .i64 y.kind, .int .i64 y.n, .string y.name, .slice y.at_.1 y.args.length y.at_.2] 27)
  obtain ⟨wz, hwz⟩ : ∃ z, z = (w12.alloc (.cells #[.int .i64 x.kind, .int .i64 x.n, .string x.name, .slice x.at_.1 x.args.length x.at_.2] 27)).alloc (.cells #[.int .i64 y.kind, .int .i64 y.n, .string y.name, .slice y.at_.1 y.args.length y.at_.2] 27) := ⟨_, rfl⟩
  rw [← hwz] at h2 ⊢
  have HC := Lib.hid (fun W (T : Turned (fun _ => False) wz W) => And.intro (four_of ((T.block _ (by have := h2.2.1; omega) (fun f => f)).trans h2.2.2.1)) (four_of ((T.block _ (by have := h2.2.1; omega) (fun f => f)).trans h2.2.2.2)))
  have HXA := Lib.hid (fun W (T : Turned (fun _ => False) wz W) => (HX.out.1.turned0 (HT11.out.trans (HT12.out.trans h2.1))).turned0 T)
  have HYA := Lib.hid (fun W (T : Turned (fun _ => False) wz W) => (HY.out.1.turned0 h2.1).turned0 T)
  have HXB := Lib.hid HX.out.2
  have HYB := Lib.hid HY.out.2
  have HTZ := Lib.hid h2.1
  clear h2 hwz
  refine wp_region_ssa' (G := (fun dd vv W => (match dd with | 32 => vv = .bool true | 33 => vv = .bool true | 34 => vv = .int .i64 0 | 35 => vv = .bool true | 36 => vv = .bool true | 37 => vv = .bool true | 38 => vv = .int .i64 5 | 39 => vv = .bool true | 40 => vv = .bool true | 41 => vv = .bool true | 42 => vv = .agg #[.int .i64 x.kind, .int .i64 x.n, .string x.name, .slice x.at_.1 x.args.length x.at_.2] | 43 => vv = .agg #[.int .i64 2, .int .i64 0, .string ⟨#[97]⟩, .slice none 0 0] | 44 => vv = .bool true | 45 => vv = .bool true | 46 => vv = .bool true | 47 => vv = .agg #[.int .i64 y.kind, .int .i64 y.n, .string y.name, .slice y.at_.1 y.args.length y.at_.2] | 48 => vv = .agg #[.int .i64 2, .int .i64 0, .string ⟨#[98]⟩, .slice none 0 0] | 49 => vv = .bool true | 50 => vv = .bool true | 0 => vv = .bool true  | _ => True : Prop))) [32, 33, 34, 35, 36, 37, 38, 39, 40, 41, 42, 43, 44, 45, 46, 47, 48, 49, 50, 0] (by kernel_rfl) rfl (by kernel_rfl) ?hG ?hs ?hQ
  case hG => exact fun d v _ _ _ h => h
  case hs =>
    refine ⟨?s0, ?s1, ?s2, ?s3, ?s4, ?s5, ?s6, ?s7, ?s8, ?s9, ?s10, ?s11, ?s12, ?s13, ?s14, ?s15, ?s16, ?s17, ?s18, ?s19, trivial⟩
    case s0 =>
      refine stepOk_free [] [3] (by kernel_rfl) rfl ?_
      intro ac W hT hI hO
      have h3 : ac.tmps.getD 3 undef = .bool true := hO 3 (by simp)
      show Brings Try.prog (fun vv w' => Turned (fun _ => False) W w' ∧ vv = .bool true) _
      simp only [execOp, Act.eval, h3]
      go_simp
      try exact ⟨Turned.refl _ _, rfl⟩
    case s1 =>
      refine stepOk_free [32] [] (by kernel_rfl) rfl ?_
      intro ac W hT hI hO
      have h32 : ac.tmps.getD 32 undef = .bool true := hI 32 (by simp)
      show Brings Try.prog (fun vv w' => Turned (fun _ => False) W w' ∧ vv = .bool true) _
      simp only [execOp, Act.eval, h32]
      go_simp
      try exact ⟨Turned.refl _ _, rfl⟩
    case s2 =>
      refine stepOk_guard [33] [5] (by kernel_rfl) 1 true 33 rfl rfl (by simp) true true (fun _ _ h => h) (fun hc => ?_) (fun hc => by cases hc)
      intro ac W hT hI hO
      have h5 : ac.tmps.getD 5 undef = .int .i64 0 := hO 5 (by simp)
      show Brings Try.prog (fun vv w' => Turned (fun _ => False) W w' ∧ vv = .int .i64 0) _
      simp only [execOp, Act.eval, h5]
      go_simp
      try exact ⟨Turned.refl _ _, rfl⟩
    case s3 =>
      refine stepOk_guard [34, 33] [] (by kernel_rfl) 1 true 33 rfl rfl (by simp) true true (fun _ _ h => h) (fun hc => ?_) (fun hc => by cases hc)
      intro ac W hT hI hO
      have h34 : ac.tmps.getD 34 undef = .int .i64 0 := hI 34 (by simp)
      show Brings Try.prog (fun vv w' => Turned (fun _ => False) W w' ∧ vv = .bool true) _
      simp only [execOp, Act.eval, h34]
      go_simp
      try exact ⟨Turned.refl _ _, rfl⟩
    case s4 =>
      refine stepOk_free [33, 35] [] (by kernel_rfl) rfl ?_
      intro ac W hT hI hO
      have h33 : ac.tmps.getD 33 undef = .bool true := hI 33 (by simp)
      have h35 : ac.tmps.getD 35 undef = .bool true := hI 35 (by simp)
      show Brings Try.prog (fun vv w' => Turned (fun _ => False) W w' ∧ vv = .bool true) _
      simp only [execOp, Act.eval, h33, h35]
      go_simp
      try exact ⟨Turned.refl _ _, rfl⟩
    case s5 =>
      refine stepOk_free [36] [] (by kernel_rfl) rfl ?_
      intro ac W hT hI hO
      have h36 : ac.tmps.getD 36 undef = .bool true := hI 36 (by simp)
      show Brings Try.prog (fun vv w' => Turned (fun _ => False) W w' ∧ vv = .bool true) _
      simp only [execOp, Act.eval, h36]
      go_simp
      try exact ⟨Turned.refl _ _, rfl⟩
    case s6 =>
      refine stepOk_guard [37] [4] (by kernel_rfl) 5 true 37 rfl rfl (by simp) true true (fun _ _ h => h) (fun hc => ?_) (fun hc => by cases hc)
      intro ac W hT hI hO
      have h4 : ac.tmps.getD 4 undef = .int .i64 5 := hO 4 (by simp)
      show Brings Try.prog (fun vv w' => Turned (fun _ => False) W w' ∧ vv = .int .i64 5) _
      simp only [execOp, Act.eval, h4]
      go_simp
      try exact ⟨Turned.refl _ _, rfl⟩
    case s7 =>
      refine stepOk_guard [38, 37] [] (by kernel_rfl) 5 true 37 rfl rfl (by simp) true true (fun _ _ h => h) (fun hc => ?_) (fun hc => by cases hc)
      intro ac W hT hI hO
      have h38 : ac.tmps.getD 38 undef = .int .i64 5 := hI 38 (by simp)
      show Brings Try.prog (fun vv w' => Turned (fun _ => False) W w' ∧ vv = .bool true) _
      simp only [execOp, Act.eval, h38]
      go_simp
      try exact ⟨Turned.refl _ _, rfl⟩
    case s8 =>
      refine stepOk_free [37, 39] [] (by kernel_rfl) rfl ?_
      intro ac W hT hI hO
      have h37 : ac.tmps.getD 37 undef = .bool true := hI 37 (by simp)
      have h39 : ac.tmps.getD 39 undef = .bool true := hI 39 (by simp)
      show Brings Try.prog (fun vv w' => Turned (fun _ => False) W w' ∧ vv = .bool true) _
      simp only [execOp, Act.eval, h37, h39]
      go_simp
      try exact ⟨Turned.refl _ _, rfl⟩
    case s9 =>
      refine stepOk_free [40] [] (by kernel_rfl) rfl ?_
      intro ac W hT hI hO
      have h40 : ac.tmps.getD 40 undef = .bool true := hI 40 (by simp)
      show Brings Try.prog (fun vv w' => Turned (fun _ => False) W w' ∧ vv = .bool true) _
      simp only [execOp, Act.eval, h40]
      go_simp
      try exact ⟨Turned.refl _ _, rfl⟩
    case s10 =>
      refine stepOk_guard [41] [6] (by kernel_rfl) 9 true 41 rfl rfl (by simp) true true (fun _ _ h => h) (fun hc => ?_) (fun hc => by cases hc)
      intro ac W hT hI hO
      have h6 : ac.tmps.getD 6 undef = .pointer (some ⟨w12.heap.size, 0, none⟩) := hO 6 (by simp)
      show Brings Try.prog (fun vv w' => Turned (fun _ => False) W w' ∧ vv = .agg #[.int .i64 x.kind, .int .i64 x.n, .string x.name, .slice x.at_.1 x.args.length x.at_.2]) _
      obtain ⟨⟨c0, c1, c2, c3⟩, _⟩ := HC.out W hT
      simp only [execOp, Act.eval, h6]
      go_simp
      try exact ⟨Turned.refl _ _, rfl⟩
    case s11 =>
      refine stepOk_guard [41] [] (by kernel_rfl) 9 true 41 rfl rfl (by simp) true true (fun _ _ h => h) (fun hc => ?_) (fun hc => by cases hc)
      intro ac W hT hI hO
      show Brings Try.prog (fun vv w' => Turned (fun _ => False) W w' ∧ vv = .agg #[.int .i64 2, .int .i64 0, .string ⟨#[97]⟩, .slice none 0 0]) _
      simp only [execOp, Act.eval]
      go_simp
      show Calls Try.prog 63 _ W _
      (with_reducible refine (atomVal ⟨#[97]⟩ (by unfold maxLen; decide) W).mono ?_)
      rintro e w' ⟨rfl, T'⟩
      exact ⟨_, rfl, T', rfl⟩
    case s12 =>
      refine stepOk_guard [42, 43, 41] [] (by kernel_rfl) 9 true 41 rfl rfl (by simp) true true (fun _ _ h => h) (fun hc => ?_) (fun hc => by cases hc)
      intro ac W hT hI hO
      have h42 : ac.tmps.getD 42 undef = .agg #[.int .i64 x.kind, .int .i64 x.n, .string x.name, .slice x.at_.1 x.args.length x.at_.2] := hI 42 (by simp)
      have h43 : ac.tmps.getD 43 undef = .agg #[.int .i64 2, .int .i64 0, .string ⟨#[97]⟩, .slice none 0 0] := hI 43 (by simp)
      show Brings Try.prog (fun vv w' => Turned (fun _ => False) W w' ∧ vv = .bool true) _
      simp only [execOp, Act.eval, h42, h43]
      go_simp
      show Calls Try.prog 52 _ W _
      (with_reducible refine (sameAtom ⟨#[97]⟩ (HXA.out W hT) HXB.out (by unfold maxLen; decide) (by kernel_rfl)).mono ?_)
      rintro e w' ⟨rfl, T'⟩
      exact ⟨_, rfl, T', rfl⟩
    case s13 =>
      refine stepOk_free [41, 44] [] (by kernel_rfl) rfl ?_
      intro ac W hT hI hO
      have h41 : ac.tmps.getD 41 undef = .bool true := hI 41 (by simp)
      have h44 : ac.tmps.getD 44 undef = .bool true := hI 44 (by simp)
      show Brings Try.prog (fun vv w' => Turned (fun _ => False) W w' ∧ vv = .bool true) _
      simp only [execOp, Act.eval, h41, h44]
      go_simp
      try exact ⟨Turned.refl _ _, rfl⟩
    case s14 =>
      refine stepOk_free [45] [] (by kernel_rfl) rfl ?_
      intro ac W hT hI hO
      have h45 : ac.tmps.getD 45 undef = .bool true := hI 45 (by simp)
      show Brings Try.prog (fun vv w' => Turned (fun _ => False) W w' ∧ vv = .bool true) _
      simp only [execOp, Act.eval, h45]
      go_simp
      try exact ⟨Turned.refl _ _, rfl⟩
    case s15 =>
      refine stepOk_guard [46] [7] (by kernel_rfl) 14 true 46 rfl rfl (by simp) true true (fun _ _ h => h) (fun hc => ?_) (fun hc => by cases hc)
      intro ac W hT hI hO
      have h7 : ac.tmps.getD 7 undef = .pointer (some ⟨w12.heap.size + 1, 0, none⟩) := hO 7 (by simp)
      show Brings Try.prog (fun vv w' => Turned (fun _ => False) W w' ∧ vv = .agg #[.int .i64 y.kind, .int .i64 y.n, .string y.name, .slice y.at_.1 y.args.length y.at_.2]) _
      obtain ⟨_, ⟨c0, c1, c2, c3⟩⟩ := HC.out W hT
      simp only [execOp, Act.eval, h7]
      go_simp
      try exact ⟨Turned.refl _ _, rfl⟩
    case s16 =>
      refine stepOk_guard [46] [] (by kernel_rfl) 14 true 46 rfl rfl (by simp) true true (fun _ _ h => h) (fun hc => ?_) (fun hc => by cases hc)
      intro ac W hT hI hO
      show Brings Try.prog (fun vv w' => Turned (fun _ => False) W w' ∧ vv = .agg #[.int .i64 2, .int .i64 0, .string ⟨#[98]⟩, .slice none 0 0]) _
      simp only [execOp, Act.eval]
      go_simp
      show Calls Try.prog 63 _ W _
      (with_reducible refine (atomVal ⟨#[98]⟩ (by unfold maxLen; decide) W).mono ?_)
      rintro e w' ⟨rfl, T'⟩
      exact ⟨_, rfl, T', rfl⟩
    case s17 =>
      refine stepOk_guard [47, 48, 46] [] (by kernel_rfl) 14 true 46 rfl rfl (by simp) true true (fun _ _ h => h) (fun hc => ?_) (fun hc => by cases hc)
      intro ac W hT hI hO
      have h47 : ac.tmps.getD 47 undef = .agg #[.int .i64 y.kind, .int .i64 y.n, .string y.name, .slice y.at_.1 y.args.length y.at_.2] := hI 47 (by simp)
      have h48 : ac.tmps.getD 48 undef = .agg #[.int .i64 2, .int .i64 0, .string ⟨#[98]⟩, .slice none 0 0] := hI 48 (by simp)
      show Brings Try.prog (fun vv w' => Turned (fun _ => False) W w' ∧ vv = .bool true) _
      simp only [execOp, Act.eval, h47, h48]
      go_simp
      show Calls Try.prog 52 _ W _
      (with_reducible refine (sameAtom ⟨#[98]⟩ (HYA.out W hT) HYB.out (by unfold maxLen; decide) (by kernel_rfl)).mono ?_)
      rintro e w' ⟨rfl, T'⟩
      exact ⟨_, rfl, T', rfl⟩
    case s18 =>
      refine stepOk_free [46, 49] [] (by kernel_rfl) rfl ?_
      intro ac W hT hI hO
      have h46 : ac.tmps.getD 46 undef = .bool true := hI 46 (by simp)
      have h49 : ac.tmps.getD 49 undef = .bool true := hI 49 (by simp)
      show Brings Try.prog (fun vv w' => Turned (fun _ => False) W w' ∧ vv = .bool true) _
      simp only [execOp, Act.eval, h46, h49]
      go_simp
      try exact ⟨Turned.refl _ _, rfl⟩
    case s19 =>
      refine stepOk_free [50] [] (by kernel_rfl) rfl ?_
      intro ac W hT hI hO
      have h50 : ac.tmps.getD 50 undef = .bool true := hI 50 (by simp)
      show Brings Try.prog (fun vv w' => Turned (fun _ => False) W w' ∧ vv = .bool true) _
      simp only [execOp, Act.eval, h50]
      go_simp
      try exact ⟨Turned.refl _ _, rfl⟩
  case hQ =>
    intro vs w13 T13 hV
    have q0 : vs 0 = .bool true := hV 0 (by simp)
    simp only [List.foldl_cons, List.foldl_nil, List.setIfInBounds_toArray, List.set_cons_zero, List.set_cons_succ, q0]
    obtain ⟨_, _, _, _, _, T9⟩ := HB9.out
    have HT13 := Lib.hid ((((T9.trans HT10.out).trans (HT11.out.trans HT12.out)).trans HTZ.out).trans T13)
    clear hV q0 T13 T9
    go_wp2_with fail
    go_ret
    exact ⟨rfl, HT13.out⟩
end Go.Proofs.Ytoihjobdfjajfaa
namespace Go.Proofs.Ytoihjobdfjajfaa
set_option linter.unusedVariables false
set_option linter.unusedSimpArgs false
open Go.RowKit
set_option maxRecDepth 100000 in
set_option maxHeartbeats 3200000 in
theorem own114 {p : Nat → Prop} (n : Nat) : ∀ (t : LT) (w : World), t.depth ≤ n → t.In p w → slim t →
    Calls Try.prog 114 #[t.val] w fun e w' => ∃ u : LT, e = .returned u.val ∧ u.bare = t.bare ∧ u.In (fun k => w.heap.size ≤ k) w' ∧ Turned (fun _ => False) w w' := by
  induction n with
  | zero => intro t w h; have := Tm.depth_pos t; omega
  | succ n ih =>
    intro t w hd ht hsl
    obtain ⟨i0, hi0, hz0, hz1, hz2⟩ := info_parts infoR
    have hl12 : t.args.length ≤ 12 := hsl t (by rw [Tm.flat_eq]; exact List.mem_cons_self ..)
    have hcall : ∀ x : LT, x ∈ t.args → ∀ W, x.In p W → Calls Try.prog 114 #[x.val] W fun e w' => ∃ u : LT, e = .returned u.val ∧ u.bare = x.bare ∧ u.In (fun k => W.heap.size ≤ k) w' ∧ Turned (fun _ => False) W w' := fun x hx W hW => ih x W (by have := arg_depth hx; omega) hW (fun y hy => hsl y (by rw [Tm.flat_eq]; exact List.mem_cons_of_mem _ (mem_flats_arg hx hy)))
    have HC := Lib.hid hcall
    have HIN := Lib.hid ht
    have hL := fun W h => (LT.In.lies (p := p) (w := W) (t := t) h)
    rw [LT.val_eq]
    obtain ⟨ad, had⟩ : ∃ z, z = t.at_.1 := ⟨_, rfl⟩
    obtain ⟨cd, hcd⟩ : ∃ z, z = t.at_.2 := ⟨_, rfl⟩
    rw [← had] at hL
    rw [← had, ← hcd]
    have HL := Lib.hid hL
    have H3 := Lib.hid (three w (.cells #[.int .i64 t.kind, .int .i64 t.n, .string t.name, .slice ad t.args.length cd] 27) (.cells #[.int .i64 0, .int .i64 0, .string ⟨#[]⟩, .slice none 0 0] 41) (.cells #[.int .i64 t.kind, .int .i64 t.n, .string t.name, .slice none 0 0] 41))
    clear ih hd hsl hcall ht hL had hcd
    go_enter Try.func114, Try.ntmps114
    go_wp2_with fail
    revert H3
    generalize (((w.alloc (.cells #[.int .i64 t.kind, .int .i64 t.n, .string t.name, .slice ad t.args.length cd] 27)).alloc (.cells #[.int .i64 0, .int .i64 0, .string ⟨#[]⟩, .slice none 0 0] 41)).alloc (.cells #[.int .i64 t.kind, .int .i64 t.n, .string t.name, .slice none 0 0] 41)) = w1
    intro H3
    obtain ⟨B0, hB0⟩ : ∃ z, z = w.heap.size := ⟨_, rfl⟩
    obtain ⟨B1, hB1⟩ : ∃ z, z = w.heap.size + 1 := ⟨_, rfl⟩
    obtain ⟨B2, hB2⟩ : ∃ z, z = w.heap.size + 2 := ⟨_, rfl⟩
    obtain ⟨N, hN⟩ : ∃ z, z = w.heap.size + 3 := ⟨_, rfl⟩
    rw [← hB1, ← hB2, ← hN, ← hB0] at H3
    have HE := Lib.hid (And.intro hB0 (And.intro hB1 (And.intro hB2 hN)))
    try rw [← hB2]
    try rw [← hB1]
    try rw [← hB0]
    clear hB0 hB1 hB2 hN
    have hinit : Hid (OwnI N B2 t w1 0 [] none 0 w1) := ⟨rfl, H3.out.2.2.2.1, Row.nil _ _ _, trivial, fun b h => by simp [Value.ownBlock] at h, Turned.refl _ _⟩
    go_loopg [4] t.args.length (fun g i wr => ∃ j : Nat, Hid (j + g = t.args.length) ∧ j ≤ t.args.length ∧ i = .int .i64 j ∧ ∃ us a c, Hid (OwnI N B2 t w1 j us a c wr))
    case atStart => exact ⟨0, Nat.zero_add _, Nat.zero_le _, rfl, [], none, 0, hinit⟩
    case round =>
      obtain ⟨j, HG, hj, rfl, us, a, c, HOI⟩ := hrel
      have HTw : Hid (Turned (fun _ => False) w wr) := H3.out.1.step HOI.out.turned (fun i hi e => by have := HE.out; omega)
      have hb0 := (HOI.out.turned.block B0 (Array.getElem?_eq_some_iff.1 H3.out.2.2.1).1 (fun e => by have := HE.out; omega)).trans H3.out.2.2.1
      obtain ⟨_, _, _, k3, _⟩ := cells4 hb0
      have hlen' : us.length = j := by have := congrArg List.length HOI.out.bares; rw [Tm.bares_length, Tm.bares_length, List.length_take] at this; omega
      have HUL := Lib.hid hlen'
      clear hb0 hlen'
      by_cases hjl : j < t.args.length
      · have hx : t.args[j]? = some t.args[j] := List.getElem?_eq_getElem hjl
        obtain ⟨x, hxe⟩ : ∃ x : LT, x = t.args[j] := ⟨_, rfl⟩
        rw [← hxe] at hx
        clear hxe
        have tin := HIN.out.turned0 HTw.out
        have xin := (LT.ins_iff _).1 tin.args x (List.mem_of_getElem? hx)
        obtain ⟨b, o, rfl, _, c0, c1, c2, c3⟩ := (HL.out _ tin).cell hx
        have hcx := fun W (h : Turned (fun _ => False) wr W) => HC.out x (List.mem_of_getElem? hx) W (xin.turned0 h)
        rw [LT.val_eq x] at hcx
        have HCX := Lib.hid hcx
        have HX := Lib.hid hx
        have HBN : Hid (B2 < N ∧ N ≤ wr.heap.size ∧ w1.heap.size ≤ N) := ⟨by have := HE.out; omega, by have := HOI.out.turned.size; have := H3.out.2.1; omega, by have := H3.out.2.1; omega⟩
        clear hx hcx xin tin
        go_wp2_with fail
        · skip
          refine wp_region_hs [19, 20, 21, 22, 23, 24, 25, 26, 27, 28, 29] [7, 8, 9, 11] [4, 2, 0, 0, 0, 0, 0, 4, 4, 4, 4, 4] [26, 27, 28, 100011] (fun d v => (match d with | 19 => v = .pointer (some ⟨B2, 3, none⟩) | 20 => v = .slice a j c | 21 => v = .pointer (some ⟨B0, 3, none⟩) | 22 => v = .slice (some ⟨b, o, none⟩) t.args.length cd | 23 => v = .int .i64 (j : Int) | 24 => v = .pointer (some ⟨b, o + j * 4, none⟩) | 25 => v = .agg #[.int .i64 x.kind, .int .i64 x.n, .string x.name, .slice x.at_.1 x.args.length x.at_.2] | 29 => v = .pointer (some ⟨B2, 3, none⟩) | _ => True : Prop)) (OwnS N B2 t x w1 j us a c wr) (by kernel_rfl) rfl (by kernel_rfl) (by kernel_rfl) (by kernel_rfl) (by kernel_rfl) (fun _ h => h) (fun hs w w' h ht => OwnS.turned0 hs w w' h ht) ?hs ?hQ
          case hs =>
            refine ⟨?s0, ?s1, ?s2, ?s3, ?s4, ?s5, ?s6, ?s7, ?s8, ?s9, ?s10, ?s11, trivial⟩
            case s0 =>
              refine fun hs hle => stepG_free [] [3] (by kernel_rfl) rfl ?_
              · intro ac W hT hI hO
                have h3 : ac.tmps.getD 3 undef = .pointer (some ⟨B2, 0, none⟩) := hO 3 (by simp)
                show Brings Try.prog (fun v w' => Turned (fun _ => False) W w' ∧ v = .pointer (some ⟨B2, 3, none⟩)) _
                simp only [execOp, Act.eval, h3]
                go_simp
                try exact ⟨Turned.refl _ _, rfl⟩
            case s1 =>
              refine fun hs hle => stepG_free [19] [] (by kernel_rfl) rfl ?_
              · intro ac W hT hI hO
                have hle : hs.length ≤ 2 := hle
                have h19 : ac.tmps.getD 19 undef = .pointer (some ⟨B2, 3, none⟩) := hI 19 (by simp)
                show Brings Try.prog (fun v w' => Turned (fun _ => False) W w' ∧ v = .slice a j c) _
                obtain ⟨_, _, _, d3⟩ := OwnS.blk HOI.out hs W hle hT
                simp only [execOp, Act.eval, h19]
                go_simp
                exact ⟨Turned.refl _ _, rfl⟩
            case s2 =>
              refine fun hs hle => stepG_free [] [1] (by kernel_rfl) rfl ?_
              · intro ac W hT hI hO
                have hle : hs.length ≤ 0 := hle
                have h1 : ac.tmps.getD 1 undef = .pointer (some ⟨B0, 0, none⟩) := hO 1 (by simp)
                show Brings Try.prog (fun v w' => Turned (fun _ => False) W w' ∧ v = .pointer (some ⟨B0, 3, none⟩)) _
                simp only [execOp, Act.eval, h1]
                go_simp
                try exact ⟨Turned.refl _ _, rfl⟩
            case s3 =>
              refine fun hs hle => stepG_free [21] [] (by kernel_rfl) rfl ?_
              · intro ac W hT hI hO
                have hle : hs.length ≤ 0 := hle
                have h21 : ac.tmps.getD 21 undef = .pointer (some ⟨B0, 3, none⟩) := hI 21 (by simp)
                show Brings Try.prog (fun v w' => Turned (fun _ => False) W w' ∧ v = .slice (some ⟨b, o, none⟩) t.args.length cd) _
                have hT0 : Turned (fun _ => False) wr W := own_nil (by omega) hT; have e3 := hT0.cell0 k3; have g0 := hT0.cell0 c0; have g1 := hT0.cell0 c1; have g2 := hT0.cell0 c2; have g3 := hT0.cell0 c3
                simp only [execOp, Act.eval, h21]
                go_simp
                exact ⟨Turned.refl _ _, rfl⟩
            case s4 =>
              refine fun hs hle => stepG_free [] [4] (by kernel_rfl) rfl ?_
              · intro ac W hT hI hO
                have hle : hs.length ≤ 0 := hle
                have h4 : ac.tmps.getD 4 undef = .int .i64 (j : Int) := hO 4 (by simp)
                show Brings Try.prog (fun v w' => Turned (fun _ => False) W w' ∧ v = .int .i64 (j : Int)) _
                simp only [execOp, Act.eval, h4]
                go_simp
                try exact ⟨Turned.refl _ _, rfl⟩
            case s5 =>
              refine fun hs hle => stepG_free [22, 23] [] (by kernel_rfl) rfl ?_
              · intro ac W hT hI hO
                have hle : hs.length ≤ 0 := hle
                have h22 : ac.tmps.getD 22 undef = .slice (some ⟨b, o, none⟩) t.args.length cd := hI 22 (by simp)
                have h23 : ac.tmps.getD 23 undef = .int .i64 (j : Int) := hI 23 (by simp)
                show Brings Try.prog (fun v w' => Turned (fun _ => False) W w' ∧ v = .pointer (some ⟨b, o + j * 4, none⟩)) _
                simp only [execOp, Act.eval, h22, h23]
                go_simp
                try rw [if_pos (by omega)]
                try exact ⟨Turned.refl _ _, rfl⟩
            case s6 =>
              refine fun hs hle => stepG_free [24] [] (by kernel_rfl) rfl ?_
              · intro ac W hT hI hO
                have hle : hs.length ≤ 0 := hle
                have h24 : ac.tmps.getD 24 undef = .pointer (some ⟨b, o + j * 4, none⟩) := hI 24 (by simp)
                show Brings Try.prog (fun v w' => Turned (fun _ => False) W w' ∧ v = .agg #[.int .i64 x.kind, .int .i64 x.n, .string x.name, .slice x.at_.1 x.args.length x.at_.2]) _
                have hT0 : Turned (fun _ => False) wr W := own_nil (by omega) hT; have e3 := hT0.cell0 k3; have g0 := hT0.cell0 c0; have g1 := hT0.cell0 c1; have g2 := hT0.cell0 c2; have g3 := hT0.cell0 c3
                simp only [execOp, Act.eval, h24]
                go_simp
                exact ⟨Turned.refl _ _, rfl⟩
            case s7 =>
              refine fun hs hlen => stepG_free [25] [] (by kernel_rfl) rfl ?_
              · intro ac W hT hI hO
                have h25 : ac.tmps.getD 25 undef = .agg #[.int .i64 x.kind, .int .i64 x.n, .string x.name, .slice x.at_.1 x.args.length x.at_.2] := hI 25 (by simp)
                show Brings Try.prog (fun v w' => OwnS N B2 t x w1 j us a c wr (hs ++ [v]) w') _
                obtain rfl : hs = [] := List.eq_nil_of_length_eq_zero hlen
                replace hT : Turned (fun _ => False) wr W := hT
                simp only [execOp, Act.eval, h25]
                go_simp
                show Calls Try.prog 114 _ W _
                (with_reducible refine (HCX.out W hT).mono ?_)
                rintro e w' ⟨u, rfl, hb, hu, T'⟩
                exact ⟨_, rfl, hT.trans T', u, rfl, hb, hu.mono (fun k hk h => Nat.le_trans hT.size h)⟩
            case s8 =>
              refine fun hs hlen => stepG_free [26] [] (by kernel_rfl) rfl ?_
              · intro ac W hT hI hO
                have h26 : hs[0]? = some (ac.tmps.getD 26 undef) := hI 26 (by simp)
                show Brings Try.prog (fun v w' => OwnS N B2 t x w1 j us a c wr (hs ++ [v]) w') _
                obtain ⟨uv, rfl⟩ := List.length_eq_one_iff.1 hlen
                obtain ⟨hT1, u, rfl, hb, hu⟩ := hT
                replace h26 : ac.tmps.getD 26 undef = u.val := by simpa using h26.symm
                rw [LT.val_eq] at h26
                have h26' : ac.tmps[26]?.getD undef = .agg #[.int .i64 u.kind, .int .i64 u.n, .string u.name, .slice u.at_.1 u.args.length u.at_.2] := by rw [← Array.getD_eq_getD_getElem?]; exact h26
                simp only [execOp, Act.eval, h26]
                go_simp
                have hnew := heap_alloc_new W (.cells #[.int .i64 u.kind, .int .i64 u.n, .string u.name, .slice u.at_.1 u.args.length u.at_.2] 41)
                refine ⟨hT1.alloc _, u, W.heap.size, rfl, hb, hu.turned0 ((Turned.refl _ W).alloc _), ?_⟩
                rw [LT.cells_eq]
                exact hnew
            case s9 =>
              refine fun hs hlen => stepG_free [20, 27] [] (by kernel_rfl) rfl ?_
              · intro ac W hT hI hO
                have h20 : ac.tmps.getD 20 undef = .slice a j c := hI 20 (by simp)
                have h27 : hs[1]? = some (ac.tmps.getD 27 undef) := hI 27 (by simp)
                show Brings Try.prog (fun v w' => OwnS N B2 t x w1 j us a c wr (hs ++ [v]) w') _
                obtain ⟨uv, sv, rfl⟩ := list2' hlen
                obtain ⟨hT1, u, g, rfl, hb, hu, hg⟩ := hT
                replace h27 : ac.tmps.getD 27 undef = .slice (some ⟨g, 0, none⟩) 1 1 := by simpa using h27.symm
                refine brings_append (.tmp 20) (.tmp 27) 39 rfl 41 i0 zeroR 4 56 Try.underlying39 hi0 hz0 hz1 hz2 rfl (by decide) _ _ _ h20 (HOI.out.row.turned0 hT1) ⟨g, 0, none⟩ 1 1 u.cells h27 (LT.cells_length u) (news_block hg) (LT.cells_one u) (by omega) (by unfold maxLen; omega) (by omega) ?_
                intro g2 cap2 w2 hrow2 T2 hl2
                have hgw : some g2 = (Value.slice a j c).ownBlock ∨ wr.heap.size ≤ g2 := by
                  rcases hl2 with e | e
                  · exact .inl e
                  · have := hT1.size; exact .inr (by omega)
                refine ⟨u, g2, cap2, rfl, hb, hrow2, ?_, (hT1.mono (fun _ _ f => f.elim)).trans T2, hgw⟩
                refine hu.turned T2 (fun k hk h e => ?_) (fun k hk h => ⟨h, fun e => ?_⟩)
                · have := HOI.out.row.lt k e; omega
                · subst e
                  rcases hl2 with e | e
                  · have := HOI.out.row.lt k e.symm; omega
                  · omega
            case s10 =>
              refine fun hs hle => stepG_free [] [3] (by kernel_rfl) rfl ?_
              · intro ac W hT hI hO
                have h3 : ac.tmps.getD 3 undef = .pointer (some ⟨B2, 0, none⟩) := hO 3 (by simp)
                show Brings Try.prog (fun v w' => Turned (fun _ => False) W w' ∧ v = .pointer (some ⟨B2, 3, none⟩)) _
                simp only [execOp, Act.eval, h3]
                go_simp
                try exact ⟨Turned.refl _ _, rfl⟩
            case s11 =>
              refine fun hs hlen => stepG_free [29, 28] [] (by kernel_rfl) rfl ?_
              · intro ac W hT hI hO
                have h29 : ac.tmps.getD 29 undef = .pointer (some ⟨B2, 3, none⟩) := hI 29 (by simp)
                have h28 : hs[2]? = some (ac.tmps.getD 28 undef) := hI 28 (by simp)
                show Brings Try.prog (fun v w' => OwnS N B2 t x w1 j us a c wr (hs ++ [v]) w') _
                obtain ⟨uv, sv, av, rfl⟩ := list3' hlen
                obtain ⟨u, g, cap, rfl, hb, hrow, hu, hT2, hg⟩ := hT
                replace h28 : ac.tmps.getD 28 undef = .slice (some ⟨g, 0, none⟩) (j + 1) cap := by simpa using h28.symm
                have hbl := (hT2.block B2 (Array.getElem?_eq_some_iff.1 HOI.out.blk).1 (fun e => by have := HOI.out.own B2 e; have := HBN.out.1; omega)).trans HOI.out.blk
                obtain ⟨_, _, _, d3, _, _, _, f3⟩ := cells4 hbl
                simp only [execOp, Act.eval, h29, h28]
                go_simp
                exact ⟨_, _, _, own_close HBN.out.1 HBN.out.2.1 HOI.out HX.out hb hrow hu hT2 hg HBN.out.2.2⟩
          case hQ =>
            intro hs vs w2 hlen hR hV
            obtain ⟨e1, e2, e3, e4, rfl⟩ : ∃ a b c d, hs = [a, b, c, d] := list4' hlen
            obtain ⟨us', a', c', hI⟩ := hR
            have HI' := Lib.hid hI
            simp only [List.foldl_cons, List.foldl_nil, List.setIfInBounds_toArray, List.set_cons_zero, List.set_cons_succ]
            clear hV hlen hI
            go_wp2_with fail
            go_roundg (gk - 1)
            case measure => have := HG.out; omega
            case rel => exact ⟨j + 1, show _ = _ by have := HG.out; omega, by omega, by go_num, us', a', c', HI'⟩
      · obtain rfl : j = t.args.length := by omega
        have hb1 := (HOI.out.turned.block B1 (Array.getElem?_eq_some_iff.1 H3.out.2.2.2.2).1 (fun e => by have := HE.out; omega)).trans H3.out.2.2.2.2
        obtain ⟨d0, d1, d2, d3, f0, f1, f2, f3⟩ := cells4 hb1
        obtain ⟨g0, g1, g2, g3, _⟩ := cells4 HOI.out.blk
        have HB1 := Lib.hid hb1
        clear hb1
        go_wp2_with fail
        have hset := set4 (a' := .int .i64 t.kind) (b' := .int .i64 t.n) (c' := .string t.name) (d' := .slice a t.args.length c) HB1.out
        have hge : w.heap.size ≤ B1 := by have := HE.out; omega
        have T4 := turned4 (a := .int .i64 t.kind) (b := .int .i64 t.n) (c := .string t.name) (d := .slice a t.args.length c) HTw.out hge
        refine bodyPost_ret (v := .agg #[.int .i64 t.kind, .int .i64 t.n, .string t.name, .slice a t.args.length c]) (results_cell_row Try.results114 _ _ B1 41 _ (0, 0) _ rfl hset Try.underlying41 rfl (by kernel_rfl)) rfl ?_
        have hne : ∀ q, (Value.slice a t.args.length c).ownBlock ≠ some (Addr.block ⟨B1, q, none⟩) := fun q e => by have h1 : N ≤ B1 := HOI.out.own _ e; have := HE.out; omega
        have hrow := ((((HOI.out.row.setCell (hne 0) (.int .i64 t.kind)).setCell (hne 1) (.int .i64 t.n)).setCell (hne 2) (.string t.name)).setCell (hne 3) (.slice a t.args.length c))
        have Tq : Turned (fun k => k = B1) wr _ := ((((Turned.refl (fun k => k = B1) wr).setCell (p := ⟨B1, 0, none⟩) (.inr rfl) (.int .i64 t.kind)).setCell (p := ⟨B1, 1, none⟩) (.inr rfl) (.int .i64 t.n)).setCell (p := ⟨B1, 2, none⟩) (.inr rfl) (.string t.name)).setCell (p := ⟨B1, 3, none⟩) (.inr rfl) (.slice a t.args.length c)
        have hins := HOI.out.ins.turned (q := fun k => w.heap.size ≤ k) Tq (fun k _ hk e => by have := HE.out; omega) (fun k _ hk => by have := HE.out; omega)
        obtain ⟨e1, e2⟩ := LT.Sl.of_row (p := fun k => w.heap.size ≤ k) hrow (fun k hk => by have := HOI.out.own k hk; have := HE.out; omega) hins
        refine ⟨.mk t.kind t.n t.name (a, c) us, ?_, ?_, e2.in_ HIN.out.kind HIN.out.n HIN.out.name, T4⟩
        · show _ = Ending.returned (LT.val (.mk t.kind t.n t.name (a, c) us))
          rw [LT.val_eq]
          show _ = Ending.returned (.agg #[.int .i64 t.kind, .int .i64 t.n, .string t.name, .slice a us.length c])
          rw [HUL.out]
        · rw [mk_bare t, Tm.bare, HOI.out.bares, List.take_length]
end Go.Proofs.Ytoihjobdfjajfaa
namespace Go.Proofs.Ytoihjobdfjajfaa
set_option linter.unusedVariables false
set_option linter.unusedSimpArgs false
open Go.RowKit Go.Maps
set_option maxRecDepth 100000 in
set_option maxHeartbeats 3200000 in
theorem rFrom80 {p : Nat → Prop} {t : LT} {w : World} {first : Int} (ht : t.In p w) (hf : I64 first) :
    Calls Try.prog 80 #[t.val, .int .i64 first] w fun e w' => ∃ (u : LT) (m er : Int), e = .returned (.tuple #[u.val, .int .i64 m, .int .i64 er]) ∧ FromR t.bare first u.bare m er ∧ u.In (fun k => p k ∨ w.heap.size ≤ k) w' ∧ Turned (fun _ => False) w w' := by
  have h2 := twoBox w (.cells #[.int .i64 t.kind, .int .i64 t.n, .string t.name, .slice t.at_.1 t.args.length t.at_.2] 41) (.cells #[.int .i64 0, .int .i64 0, .string ⟨#[]⟩, .slice none 0 0] 41)
  have hgo := rGood45 (ht.turned0 h2.1)
  obtain ⟨hf1, hf2⟩ := hf
  have H2 := Lib.hid h2
  obtain ⟨p', hp'⟩ : ∃ q : Nat → Prop, q = fun k => p k ∧ k < w.heap.size := ⟨_, rfl⟩
  have HPL : Hid (∀ k, p' k → p k ∧ k < w.heap.size) := by intro k hq; rw [hp'] at hq; exact hq
  have ht' : t.In p' w := ht.mono (fun k hk h => by rw [hp']; exact ⟨h, hk⟩)
  have HIN := Lib.hid ht'
  clear hp' ht'
  rw [LT.val_eq] at hgo ⊢
  clear ht h2
  have hboxes : ∀ W, Turned (fun _ => False) ((w.alloc (.cells #[.int .i64 t.kind, .int .i64 t.n, .string t.name, .slice t.at_.1 t.args.length t.at_.2] 41)).alloc (.cells #[.int .i64 0, .int .i64 0, .string ⟨#[]⟩, .slice none 0 0] 41)) W →
      W.heap[w.heap.size]? = some (.cells #[.int .i64 t.kind, .int .i64 t.n, .string t.name, .slice t.at_.1 t.args.length t.at_.2] 41 (0, 0)) ∧ W.heap[w.heap.size + 1]? = some (.cells #[.int .i64 0, .int .i64 0, .string ⟨#[]⟩, .slice none 0 0] 41 (0, 0)) := fun W h =>
    ⟨(h.block _ (Array.getElem?_eq_some_iff.1 H2.out.2.2.1).1 (fun f => f)).trans H2.out.2.2.1, (h.block _ (Array.getElem?_eq_some_iff.1 H2.out.2.2.2).1 (fun f => f)).trans H2.out.2.2.2⟩
  have HBX := Lib.hid hboxes
  clear hboxes
  have fin : ∀ W, Turned (fun _ => False) ((w.alloc (.cells #[.int .i64 t.kind, .int .i64 t.n, .string t.name, .slice t.at_.1 t.args.length t.at_.2] 41)).alloc (.cells #[.int .i64 0, .int .i64 0, .string ⟨#[]⟩, .slice none 0 0] 41)) W →
      W.heap[w.heap.size + 1]? = some (.cells #[.int .i64 0, .int .i64 0, .string ⟨#[]⟩, .slice none 0 0] 41 (0, 0)) ∧
      ((((W.setCell ⟨w.heap.size + 1, 0, none⟩ (.int .i64 0)).setCell ⟨w.heap.size + 1, 1, none⟩ (.int .i64 0)).setCell ⟨w.heap.size + 1, 2, none⟩ (.string ⟨#[]⟩)).setCell ⟨w.heap.size + 1, 3, none⟩ (.slice none 0 0)).heap[w.heap.size + 1]? = some (.cells #[.int .i64 0, .int .i64 0, .string ⟨#[]⟩, .slice none 0 0] 41 (0, 0)) ∧
      Turned (fun _ => False) w ((((W.setCell ⟨w.heap.size + 1, 0, none⟩ (.int .i64 0)).setCell ⟨w.heap.size + 1, 1, none⟩ (.int .i64 0)).setCell ⟨w.heap.size + 1, 2, none⟩ (.string ⟨#[]⟩)).setCell ⟨w.heap.size + 1, 3, none⟩ (.slice none 0 0)) := fun W h => by
    obtain ⟨_, b1⟩ := HBX.out W h
    exact ⟨b1, set4 b1, turned4 (H2.out.1.trans h) (by omega)⟩
  have FIN := Lib.hid fin
  clear fin
  by_cases hall : goodB t = true ∧ 0 ≤ first ∧ first ≤ 2147483647
  · obtain ⟨hg, h0, h1⟩ := hall
    have hvars := fun W (h : Turned (fun _ => False) w W) => rVars51 (HIN.out.turned0 h)
    rw [LT.val_eq] at hvars
    have ev : varsB t = t.vars := by unfold varsB; rw [if_pos hg]
    have hle : t.vars.length ≤ 2000 := by have := varsB_le t; rw [ev] at this; exact this
    rw [ev] at hvars
    obtain ⟨vs, hvs⟩ : ∃ z, z = t.vars := ⟨_, rfl⟩
    rw [← hvs] at hvars hle
    have HV := Lib.hid hvars
    have HVS := Lib.hid hvs
    have HG := Lib.hid hg
    rw [hg] at hgo
    have HGO := Lib.hid hgo
    have hnum : ∀ x ∈ t.flat, x.kind = 0 → x.n ∈ vs := fun x hx hk => by
      rw [hvs, ← Tm.vars_bare]
      exact (Tm.vars_mem x.n).2 ⟨x.bare, by rw [Tm.flat_bare]; exact List.mem_map_of_mem hx, by rw [Tm.bare_kind]; exact hk, Tm.bare_n x⟩
    have HNUM := Lib.hid hnum
    clear hgo hvars hvs hg ev hnum
    have d1 : decide (first < 0) = false := decide_eq_false (by omega)
    have d2 : decide (first ≥ 2147483648) = false := decide_eq_false (by omega)
    have d2' : decide (2147483648 ≤ first) = false := decide_eq_false (by omega)
    by_cases hov : first + (vs.length : Int) ≤ 2147483648
    · have d3 : decide (2147483648 < first + (vs.length : Int)) = false := decide_eq_false (by omega)
      have HREN := Lib.hid (fun va vc W (h : Turned (fun _ => False) w W) hrow => rename140 (va := va) (vc := vc) h0 (by omega) hle t.depth p' t W (Nat.le_refl _) (HIN.out.turned0 h) (good_ones HG.out) HNUM.out hrow)
      rw [LT.val_eq t] at HREN
      go_enter Try.func80, Try.ntmps80
      go_wp2_with (first
        | (go_at_call 45; (with_reducible refine HGO.out.mono ?_); rintro e w3 ⟨rfl, T3⟩; obtain ⟨b0, b1⟩ := HBX.out _ T3; obtain ⟨c0, c1, c2, c3, _⟩ := cells4 b0; clear b0 b1)
        | (go_at_call 51; (with_reducible refine (HV.out _ (H2.out.1.trans T3)).mono ?_); rintro e w4 ⟨v, rfl, hrow, hown, T4⟩; obtain ⟨va, vc, rfl⟩ := hrow.shape; obtain ⟨b0, b1⟩ := HBX.out _ (T3.trans T4); obtain ⟨g0, g1, g2, g3, _⟩ := cells4 b0; have hmx := hrow.max; have HROW := Lib.hid hrow; have TT := H2.out.1.trans (T3.trans T4); clear b0 b1 hrow)
        | (go_at_call 140; (with_reducible refine (HREN.out va vc _ TT HROW.out).mono ?_); rintro e w5 ⟨u, rfl, hub, hui, T5⟩; rw [LT.val_eq u]; obtain ⟨b0, b1⟩ := HBX.out _ ((T3.trans T4).trans T5); obtain ⟨_, _, _, _, f0, f1, f2, f3⟩ := cells4 b1; have HB1 := Lib.hid b1; have HU := Lib.hid (And.intro hub hui); clear b0 b1 hub hui))
      have hset := set4 (a' := .int .i64 u.kind) (b' := .int .i64 u.n) (c' := .string u.name) (d' := .slice u.at_.1 u.args.length u.at_.2) HB1.out
      have T4' := turned4 (a := .int .i64 u.kind) (b := .int .i64 u.n) (c := .string u.name) (d := .slice u.at_.1 u.args.length u.at_.2) (TT.trans T5) (g := w.heap.size + 1) (by omega)
      refine bodyPost_ret (results_cell_tmp2 Try.results80 _ _ (w.heap.size + 1) 41 _ (0, 0) _ rfl hset Try.underlying41 rfl (by kernel_rfl)) rfl ⟨u, first + (vs.length : Int), 0, by rw [LT.val_eq u]; rfl, ?_, ?_, T4'⟩
      · unfold FromR
        rw [if_pos ⟨by rw [goodB_bare]; exact HG.out, h0, h1⟩, Tm.vars_bare, ← HVS.out, if_pos hov]
        refine ⟨rfl, rfl, ?_⟩
        rw [HU.out.1, HVS.out]
        unfold Tm.fromT
        rw [Tm.vars_bare]
      · have Tq : Turned (fun k => k = w.heap.size + 1) w5 _ := ((((Turned.refl (fun k => k = w.heap.size + 1) w5).setCell (p := ⟨w.heap.size + 1, 0, none⟩) (.inr rfl) (.int .i64 u.kind)).setCell (p := ⟨w.heap.size + 1, 1, none⟩) (.inr rfl) (.int .i64 u.n)).setCell (p := ⟨w.heap.size + 1, 2, none⟩) (.inr rfl) (.string u.name)).setCell (p := ⟨w.heap.size + 1, 3, none⟩) (.inr rfl) (.slice u.at_.1 u.args.length u.at_.2)
        have hpl := HPL.out
        have hsz : w.heap.size + 2 ≤ w4.heap.size := by have := (T3.trans T4).size; have := H2.out.2.1; omega
        refine LT.In.turned Tq (fun k _ hk e => ?_) (fun k _ hk => ?_) u HU.out.2
        · rcases hk with h | h
          · have := (hpl k h).2; omega
          · omega
        · rcases hk with h | h
          · exact .inl (hpl k h).1
          · exact .inr (by omega)
    · have d3 : decide (2147483648 < first + (vs.length : Int)) = true := decide_eq_true (by omega)
      go_enter Try.func80, Try.ntmps80
      go_wp2_with (first
        | (go_at_call 45; (with_reducible refine HGO.out.mono ?_); rintro e w3 ⟨rfl, T3⟩; obtain ⟨b0, b1⟩ := HBX.out _ T3; obtain ⟨c0, c1, c2, c3, _⟩ := cells4 b0; clear b0 b1)
        | (go_at_call 51; (with_reducible refine (HV.out _ (H2.out.1.trans T3)).mono ?_); rintro e w4 ⟨v, rfl, hrow, hown, T4⟩; obtain ⟨va, vc, rfl⟩ := hrow.shape; have hmx := hrow.max; obtain ⟨b1, hset, T4'⟩ := FIN.out _ (T3.trans T4); obtain ⟨d0, d1, d2, d3, f0, f1, f2, f3⟩ := cells4 b1; have HSET := Lib.hid hset; clear hset b1 hrow))
      refine bodyPost_ret (results_cell_tmp2 Try.results80 _ _ (w.heap.size + 1) 41 _ (0, 0) _ rfl HSET.out Try.underlying41 rfl (by kernel_rfl)) rfl ⟨leaf 0 0 ByteArray.empty, 0, 3, rfl, ?_, vtIn, T4'⟩
      unfold FromR
      rw [if_pos ⟨by rw [goodB_bare]; exact HG.out, h0, h1⟩, Tm.vars_bare, ← HVS.out, if_neg (by omega)]
      exact ⟨rfl, rfl, rfl⟩
  · have hbad : ∀ (u : Tm Unit) (m er : Int), FromR t.bare first u m er = (er = 1 ∧ m = 0 ∧ u = Tm.V 0) := fun u m er => by
      unfold FromR
      rw [if_neg (by rw [goodB_bare]; exact hall)]
    have HBAD := Lib.hid hbad
    clear hbad
    cases hg : goodB t with
    | false =>
      rw [hg] at hgo
      have HGO := Lib.hid hgo
      clear hgo hg hall
      go_enter Try.func80, Try.ntmps80
      go_wp2_with (go_at_call 45; (with_reducible refine HGO.out.mono ?_); rintro e w3 ⟨rfl, T3⟩; obtain ⟨b1, hset, T4⟩ := FIN.out _ T3; obtain ⟨d0, d1, d2, d3, f0, f1, f2, f3⟩ := cells4 b1; have HSET := Lib.hid hset; clear hset b1)
      refine bodyPost_ret (results_cell_tmp2 Try.results80 _ _ (w.heap.size + 1) 41 _ (0, 0) _ rfl HSET.out Try.underlying41 rfl (by kernel_rfl)) rfl ⟨leaf 0 0 ByteArray.empty, 0, 1, rfl, ?_, vtIn, T4⟩
      rw [HBAD.out]
      exact ⟨rfl, rfl, rfl⟩
    | true =>
      rw [hg] at hgo
      have HGO := Lib.hid hgo
      have hout : first < 0 ∨ 2147483647 < first := by
        rcases Int.lt_or_le first 0 with h | h
        · exact .inl h
        · rcases Int.lt_or_le 2147483647 first with h' | h'
          · exact .inr h'
          · exact absurd ⟨hg, h, h'⟩ hall
      clear hgo hg hall
      rcases hout with hout | hout
      · have d1 : decide (first < 0) = true := decide_eq_true hout
        go_enter Try.func80, Try.ntmps80
        go_wp2_with (go_at_call 45; (with_reducible refine HGO.out.mono ?_); rintro e w3 ⟨rfl, T3⟩; obtain ⟨b1, hset, T4⟩ := FIN.out _ T3; obtain ⟨d0, d1, d2, d3, f0, f1, f2, f3⟩ := cells4 b1; have HSET := Lib.hid hset; clear hset b1)
        refine bodyPost_ret (results_cell_tmp2 Try.results80 _ _ (w.heap.size + 1) 41 _ (0, 0) _ rfl HSET.out Try.underlying41 rfl (by kernel_rfl)) rfl ⟨leaf 0 0 ByteArray.empty, 0, 1, rfl, ?_, vtIn, T4⟩
        rw [HBAD.out]
        exact ⟨rfl, rfl, rfl⟩
      · have d1 : decide (first < 0) = false := decide_eq_false (by omega)
        have d2 : decide (2147483648 ≤ first) = true := decide_eq_true (by omega)
        go_enter Try.func80, Try.ntmps80
        go_wp2_with (go_at_call 45; (with_reducible refine HGO.out.mono ?_); rintro e w3 ⟨rfl, T3⟩; obtain ⟨b1, hset, T4⟩ := FIN.out _ T3; obtain ⟨d0, d1, d2, d3, f0, f1, f2, f3⟩ := cells4 b1; have HSET := Lib.hid hset; clear hset b1)
        refine bodyPost_ret (results_cell_tmp2 Try.results80 _ _ (w.heap.size + 1) 41 _ (0, 0) _ rfl HSET.out Try.underlying41 rfl (by kernel_rfl)) rfl ⟨leaf 0 0 ByteArray.empty, 0, 1, rfl, ?_, vtIn, T4⟩
        rw [HBAD.out]
        exact ⟨rfl, rfl, rfl⟩
theorem rFromGood {p : Nat → Prop} {t : LT} {w : World} (ht : t.In p w) (hg : goodB t = true) :
    Calls Try.prog 80 #[.agg #[.int .i64 t.kind, .int .i64 t.n, .string t.name, .slice t.at_.1 t.args.length t.at_.2], .int .i64 0] w fun e w' => ∃ (u : LT), e = .returned (.tuple #[.agg #[.int .i64 u.kind, .int .i64 u.n, .string u.name, .slice u.at_.1 u.args.length u.at_.2], .int .i64 (t.vars.length : Int), .int .i64 0]) ∧ u.bare = Tm.plainT t.bare ∧ u.In (fun _ => True) w' ∧ Turned (fun _ => False) w w' := by
  have h := rFrom80 ht (first := 0) (i64_lit 0 (by omega))
  rw [LT.val_eq] at h
  refine h.mono ?_
  rintro e w' ⟨u, m, er, rfl, hR, hi, hT⟩
  obtain ⟨rfl, rfl, hR2⟩ := fromR_good (by rw [goodB_bare]; exact hg) hR
  exact ⟨u, by rw [LT.val_eq u, Tm.vars_bare], hR2, hi.mono (fun _ _ _ => trivial), hT⟩
theorem rFromBad {p : Nat → Prop} {t : LT} {w : World} (ht : t.In p w) (hg : goodB t = false) :
    Calls Try.prog 80 #[.agg #[.int .i64 t.kind, .int .i64 t.n, .string t.name, .slice t.at_.1 t.args.length t.at_.2], .int .i64 0] w fun e w' => ∃ (u : LT), e = .returned (.tuple #[.agg #[.int .i64 u.kind, .int .i64 u.n, .string u.name, .slice u.at_.1 u.args.length u.at_.2], .int .i64 0, .int .i64 1]) ∧ u.bare = Tm.V 0 ∧ u.In (fun _ => True) w' ∧ Turned (fun _ => False) w w' := by
  have h := rFrom80 ht (first := 0) (i64_lit 0 (by omega))
  rw [LT.val_eq] at h
  refine h.mono ?_
  rintro e w' ⟨u, m, er, rfl, hR, hi, hT⟩
  obtain ⟨rfl, rfl, hR2⟩ := fromR_bad (by rw [goodB_bare]; exact hg) hR
  exact ⟨u, by rw [LT.val_eq u], hR2, hi.mono (fun _ _ _ => trivial), hT⟩
set_option maxRecDepth 100000 in
set_option maxHeartbeats 3200000 in
theorem rAlike82 {p : Nat → Prop} {a b : LT} {w : World} (ha : a.In p w) (hb : b.In p w) :
    Calls Try.prog 82 #[a.val, b.val] w fun e w' => e = .returned (.bool (alikeB a b)) ∧ Turned (fun _ => False) w w' := by
  have h2 := twoBox w (.cells #[.int .i64 a.kind, .int .i64 a.n, .string a.name, .slice a.at_.1 a.args.length a.at_.2] 41) (.cells #[.int .i64 b.kind, .int .i64 b.n, .string b.name, .slice b.at_.1 b.args.length b.at_.2] 41)
  have ha1 := ha.turned0 h2.1
  have hb1 := hb.turned0 h2.1
  rw [LT.val_eq a, LT.val_eq b]
  have H2 := Lib.hid h2
  have HA := Lib.hid ha1
  have HB := Lib.hid hb1
  have hbx : ∀ W, Turned (fun _ => False) ((w.alloc (.cells #[.int .i64 a.kind, .int .i64 a.n, .string a.name, .slice a.at_.1 a.args.length a.at_.2] 41)).alloc (.cells #[.int .i64 b.kind, .int .i64 b.n, .string b.name, .slice b.at_.1 b.args.length b.at_.2] 41)) W → W.heap[w.heap.size + 1]? = some (.cells #[.int .i64 b.kind, .int .i64 b.n, .string b.name, .slice b.at_.1 b.args.length b.at_.2] 41 (0, 0)) := fun W h => (h.block _ (Array.getElem?_eq_some_iff.1 H2.out.2.2.2).1 (fun f => f)).trans H2.out.2.2.2
  have HBX := Lib.hid hbx
  clear ha hb ha1 hb1 h2 hbx
  cases ga : goodB a with
  | false =>
    have e1 : alikeB a b = false := by unfold alikeB; rw [ga]; rfl
    rw [e1]
    have h1 := rFromBad HA.out ga
    have H1 := Lib.hid h1
    clear h1 e1 ga
    cases gb : goodB b with
    | false =>
      have h3 := fun W (h : Turned (fun _ => False) _ W) => rFromBad (HB.out.turned0 h) gb
      have H3 := Lib.hid h3
      clear h3 gb
      go_enter Try.func82, Try.ntmps82
      go_wp2_with (first
        | (go_at_call 80; (with_reducible refine H1.out.mono ?_); rintro e w3 ⟨u, rfl, hub, hui, T3⟩; have TU := T3.alloc (.cells #[.int .i64 u.kind, .int .i64 u.n, .string u.name, .slice u.at_.1 u.args.length u.at_.2] 41); obtain ⟨d0, d1, d2, d3, _⟩ := cells4 (HBX.out _ TU))
        | (go_at_call 80; (with_reducible refine (H3.out _ TU).mono ?_); rintro e w4 ⟨v, rfl, hvb, hvi, T4⟩))
      go_ret
      exact ⟨rfl, H2.out.1.trans ((TU.trans T4).alloc _)⟩
    | true =>
      have h3 := fun W (h : Turned (fun _ => False) _ W) => rFromGood (HB.out.turned0 h) gb
      have H3 := Lib.hid h3
      clear h3 gb
      go_enter Try.func82, Try.ntmps82
      go_wp2_with (first
        | (go_at_call 80; (with_reducible refine H1.out.mono ?_); rintro e w3 ⟨u, rfl, hub, hui, T3⟩; have TU := T3.alloc (.cells #[.int .i64 u.kind, .int .i64 u.n, .string u.name, .slice u.at_.1 u.args.length u.at_.2] 41); obtain ⟨d0, d1, d2, d3, _⟩ := cells4 (HBX.out _ TU))
        | (go_at_call 80; (with_reducible refine (H3.out _ TU).mono ?_); rintro e w4 ⟨v, rfl, hvb, hvi, T4⟩))
      go_ret
      exact ⟨rfl, H2.out.1.trans ((TU.trans T4).alloc _)⟩
  | true =>
    have h1 := rFromGood HA.out ga
    have H1 := Lib.hid h1
    clear h1
    cases gb : goodB b with
    | false =>
      have e1 : alikeB a b = false := by unfold alikeB; rw [ga, gb]; rfl
      rw [e1]
      have h3 := fun W (h : Turned (fun _ => False) _ W) => rFromBad (HB.out.turned0 h) gb
      have H3 := Lib.hid h3
      clear h3 gb ga e1
      go_enter Try.func82, Try.ntmps82
      go_wp2_with (first
        | (go_at_call 80; (with_reducible refine H1.out.mono ?_); rintro e w3 ⟨u, rfl, hub, hui, T3⟩; have TU := T3.alloc (.cells #[.int .i64 u.kind, .int .i64 u.n, .string u.name, .slice u.at_.1 u.args.length u.at_.2] 41); obtain ⟨d0, d1, d2, d3, _⟩ := cells4 (HBX.out _ TU))
        | (go_at_call 80; (with_reducible refine (H3.out _ TU).mono ?_); rintro e w4 ⟨v, rfl, hvb, hvi, T4⟩))
      go_ret
      exact ⟨rfl, H2.out.1.trans ((TU.trans T4).alloc _)⟩
    | true =>
      have h3 := fun W (h : Turned (fun _ => False) _ W) => rFromGood (HB.out.turned0 h) gb
      have H3 := Lib.hid h3
      have GA := Lib.hid ga
      have GB := Lib.hid gb
      clear h3 ga gb
      go_enter Try.func82, Try.ntmps82
      go_wp2_with (first
        | (go_at_call 80; (with_reducible refine H1.out.mono ?_); rintro e w3 ⟨u, rfl, hub, hui, T3⟩; have TU := T3.alloc (.cells #[.int .i64 u.kind, .int .i64 u.n, .string u.name, .slice u.at_.1 u.args.length u.at_.2] 41); obtain ⟨d0, d1, d2, d3, _⟩ := cells4 (HBX.out _ TU); have HUB := Lib.hid hub; have HUI := Lib.hid hui; have hbu := heap_alloc_new w3 (.cells #[.int .i64 u.kind, .int .i64 u.n, .string u.name, .slice u.at_.1 u.args.length u.at_.2] 41); have HBU := Lib.hid hbu; clear hub hui hbu)
        | (go_at_call 80; (with_reducible refine (H3.out _ TU).mono ?_); rintro e w4 ⟨v, rfl, hvb, hvi, T4⟩; have HVB := Lib.hid hvb; have HVI := Lib.hid hvi; have T4v := T4.alloc (.cells #[.int .i64 v.kind, .int .i64 v.n, .string v.name, .slice v.at_.1 v.args.length v.at_.2] 41); obtain ⟨e0, e1, e2, e3, _⟩ := cells4 ((T4v.block _ (Array.getElem?_eq_some_iff.1 HBU.out).1 (fun f => f)).trans HBU.out); clear hvb hvi))
      have hgu : goodB u = true := by rw [← goodB_bare, HUB.out]; exact plain_good (by rw [goodB_bare]; exact GA.out)
      have hgv : goodB v = true := by rw [← goodB_bare, HVB.out]; exact plain_good (by rw [goodB_bare]; exact GB.out)
      have hsm := rSame48 u.depth u v _ (Nat.le_refl _) (HUI.out.turned0 (((Turned.refl _ w3).alloc _).trans T4v)) (HVI.out.turned0 ((Turned.refl _ w4).alloc _))
      have hal : Tm.same u v = alikeB a b := by
        unfold alikeB
        rw [GA.out, GB.out, ← HUB.out, ← HVB.out, ← same_bares]
        rfl
      rw [LT.val_eq u, LT.val_eq v, hal] at hsm
      (with_reducible refine hsm.mono ?_)
      rintro e w5 ⟨rfl, T5⟩
      have T5' := H2.out.1.trans ((TU.trans T4v).trans T5)
      go_wp2_with fail
      go_ret
      exact ⟨rfl, T5'⟩
end Go.Proofs.Ytoihjobdfjajfaa
namespace Go.Proofs.Ytoihjobdfjajfaa
open Go.RowKit Go.Maps
set_option linter.unusedVariables false
set_option linter.unusedSimpArgs false
theorem deepVal113 (k : Nat) (t : LT) (W : World) (n : Int) (hn : n = (k : Int)) (hk : k ≤ 1000) {p : Nat → Prop} (h : t.In p W) : Calls Try.prog 113 #[.agg #[.int .i64 t.kind, .int .i64 t.n, .string t.name, .slice t.at_.1 t.args.length t.at_.2], .int .i64 n] W fun e w' => e = .returned (.bool (deepB k t)) ∧ Turned (fun _ => False) W w' := by
  subst hn
  have := deep113 p k t W hk h
  rw [LT.val_eq] at this
  exact this
theorem ownVal114 {p : Nat → Prop} {t : LT} {w : World} (ht : t.In p w) (hs : slim t) : Calls Try.prog 114 #[.agg #[.int .i64 t.kind, .int .i64 t.n, .string t.name, .slice t.at_.1 t.args.length t.at_.2]] w fun e w' => ∃ u : LT, e = .returned (.agg #[.int .i64 u.kind, .int .i64 u.n, .string u.name, .slice u.at_.1 u.args.length u.at_.2]) ∧ u.bare = t.bare ∧ u.In (fun _ => True) w' ∧ Turned (fun _ => False) w w' := by
  have := own114 t.depth t w (Nat.le_refl _) ht hs
  rw [LT.val_eq] at this
  refine this.mono ?_
  rintro e w' ⟨u, rfl, h1, h2, h3⟩
  exact ⟨u, by rw [LT.val_eq], h1, h2.mono (fun _ _ _ => trivial), h3⟩
theorem alikeVal82 {p : Nat → Prop} {a b : LT} {w : World} {r : Bool} (ha : a.In p w) (hb : b.In p w) (hr : alikeB a b = r) : Calls Try.prog 82 #[.agg #[.int .i64 a.kind, .int .i64 a.n, .string a.name, .slice a.at_.1 a.args.length a.at_.2], .agg #[.int .i64 b.kind, .int .i64 b.n, .string b.name, .slice b.at_.1 b.args.length b.at_.2]] w fun e w' => e = .returned (.bool r) ∧ Turned (fun _ => False) w w' := by
  have := rAlike82 ha hb
  rw [LT.val_eq, LT.val_eq, hr] at this
  exact this
theorem both8 (w : World) : Calls Try.prog 109 #[.int .i64 8] w fun e w' => ∃ bb wb, e = .returned (.tuple #[.pointer (some ⟨bb, 0, none⟩), .pointer (some ⟨wb, 0, none⟩)]) ∧ BDq (fun k => k < w.heap.size) w.heap.size bb wb 8 8 [] [] w w' := both109 8 (by omega) w
theorem bothR_err {m : Nat} {l tr : Tm.Trail} {x y : Tm Unit} {ok : Bool} {c e : Int} (h : bothR m l x y = (ok, c, e, tr)) (he : ¬ e = 0) : ok = false := by
  unfold bothR at h
  split at h
  · split at h
    · injection h with _ h; injection h with _ h; injection h with h _; exact absurd h.symm he
    · injection h with h _; exact h.symm
    · injection h with h _; exact h.symm
  · injection h with h _; exact h.symm
theorem makes_whole {x y : Tm Unit} {c1 c2 : Int} {t1 t2 : Tm.Trail} (h1 : bothR 8 [] x y = (true, c1, 0, t1)) (h2 : bothR 8 [] y x = (true, c2, 0, t2)) : wholeE 8 t1 y = wholeE 8 t1 x ∧ wholeE 8 t2 x = wholeE 8 t1 x := by
  obtain ⟨ox, oy, _⟩ := both_own (by omega) h1
  obtain ⟨o1, o2, e1, e2⟩ := both_alike (by omega) h1 h2
  have lx := good_leafy (Tm.ownB_iff.1 ox).1
  obtain ⟨s1, s2⟩ := plain_size (Tm.img_leafy o1 lx) (Tm.img_leafy o2 lx) e2
  unfold wholeE Tm.wholeB
  rw [if_pos ox, if_pos oy, if_pos ox, ← e1, s1, s2]
  exact ⟨rfl, rfl⟩
theorem makes_eq {x y : Tm Unit} {c1 c2 : Int} {t1 t2 : Tm.Trail} {u v z : LT} (h1 : bothR 8 [] x y = (true, c1, 0, t1)) (h2 : bothR 8 [] y x = (true, c2, 0, t2)) (hE : wholeE 8 t1 x = 0) (hu : u.bare = wholeT 8 t1 x) (hv : v.bare = wholeT 8 t1 y) (hz : z.bare = wholeT 8 t2 x) :
    sameB u v = true ∧ (∀ a b : LT, a.bare = u.bare → b.bare = z.bare → alikeB a b = true) ∧ goodB u.bare = true ∧ goodB v.bare = true ∧ goodB z.bare = true := by
  obtain ⟨w1, w2⟩ := makes_whole h1 h2
  obtain ⟨o1, o2, e1, e2⟩ := both_alike (by omega) h1 h2
  have q1 := (wholeQ o1 hE hu).good
  have q2 := (wholeQ o1 (w1.trans hE) hv).good
  have q3 := (wholeQ o2 (w2.trans hE) hz).good
  unfold wholeT at hu hv hz
  rw [hE] at hu
  rw [w1, hE] at hv
  rw [w2, hE] at hz
  simp only [if_pos] at hu hv hz
  refine ⟨sameB_eq (by rw [hu, hv, e1]) q1, fun a b ha hb => ?_, q1, q2, q3⟩
  unfold alikeB
  rw [← goodB_bare a, ← goodB_bare b, ha, hb, q1, q3, hu, hz, e2, (Tm.same_unit _ _).2 rfl]
  rfl
def Two (N bb b2 : Nat) (l1 l2 : TL) (w1 wr : World) : Prop :=
  ∃ O1 O2, BO (fun k => k < N) bb O1 8 l1 wr ∧ BO (fun k => k < N) b2 O2 8 l2 wr ∧ (∀ k, O1 k → N ≤ k) ∧ (∀ k, O2 k → N ≤ k) ∧ (∀ k, O1 k → ¬ O2 k) ∧ Turned (fun _ => False) w1 wr
section
variable {N bb b2 : Nat} {l1 l2 l' : TL} {w1 wr w' : World} {O1 O2 p q : Nat → Prop}
theorem BO.nil {O : Nat → Prop} {m : Nat} {w : World} (h : BO p bb O m [] w) (hq : ∀ k, q k → p k) : BO q bb O m [] w := by
  obtain ⟨sb, lv, tv, B, h1⟩ := h.bi
  exact ⟨⟨sb, lv, tv, ⟨B.b, B.s, B.row, B.trail, fun b hb => (by cases hb), B.ok, B.most, B.ne, fun k hk => B.sep k (hq k hk)⟩, h1⟩, fun b hb => (by cases hb), h.lt, fun k hk => h.sep k (hq k hk)⟩
theorem Two.start (h1 : BLoop N bb 8 [] w1 wr) (h2 : BLoop wr.heap.size b2 8 [] wr w') (hN : N = w1.heap.size) : Two N bb b2 [] [] w1 w' := by
  obtain ⟨O1, a1, a2, a3⟩ := h1
  obtain ⟨O2, b1, b2, b3⟩ := h2
  have hs := a3.size
  exact ⟨O1, O2, a1.turned0 b3, b1.nil (fun k hk => by omega), a2, fun k hk => by have := b2 k hk; omega, fun k hk c => by have := a1.lt k hk; have := b2 k c; omega, a3.trans b3⟩
theorem Two.step1 (hN : N = w1.heap.size) (B1 : BO (fun k => k < N) bb O1 8 l1 wr) (B2 : BO (fun k => k < N) b2 O2 8 l2 wr) (h1 : ∀ k, O1 k → N ≤ k) (h2 : ∀ k, O2 k → N ≤ k) (hd : ∀ k, O1 k → ¬ O2 k) (T : Turned (fun _ => False) w1 wr) (ha : After (fun k => k < N) bb O1 8 l' wr w') : Two N bb b2 l' l2 w1 w' := by
  obtain ⟨O', a1, a2, a3⟩ := ha
  have hs := T.size
  refine ⟨O', O2, a1, B2.turned a3 (fun k hk e => ⟨hd k e, fun c => by have := h1 k e; omega⟩), fun k hk => ?_, h2, fun k hk c => hd k (a2 k hk (B2.lt k c)) c, T.step a3 (fun i hi e => by have := h1 i e; omega)⟩
  rcases Nat.lt_or_ge k wr.heap.size with h | h
  · exact h1 k (a2 k hk h)
  · omega
theorem Two.swap (h : Two N bb b2 l1 l2 w1 wr) : Two N b2 bb l2 l1 w1 wr := by
  obtain ⟨O1, O2, a, b, c, d, e, f⟩ := h
  exact ⟨O2, O1, b, a, d, c, fun k hk g => e k g hk, f⟩
theorem Two.turned0 (h : Two N bb b2 l1 l2 w1 wr) (T : Turned (fun _ => False) wr w') : Two N bb b2 l1 l2 w1 w' := by
  obtain ⟨O1, O2, a, b, c, d, e, f⟩ := h
  exact ⟨O1, O2, a.turned0 T, b.turned0 T, c, d, e, f.trans T⟩
theorem markZero {O : Nat → Prop} {m : Nat} {l : TL} {w : World} (h : BO p bb O m l w) (hl : bt l = []) : Calls Try.prog 111 #[.pointer (some ⟨bb, 0, none⟩)] w fun e w' => e = .returned (.int .i64 0) ∧ Turned (fun _ => False) w w' := by
  have := markO111 h
  have hz : l.length = 0 := by rw [← bt_length, hl]; rfl
  rw [hz] at this
  exact this
end
set_option maxRecDepth 100000 in
set_option maxHeartbeats 25600000 in
theorem unifyMakes {w : World} {x y : LT} (hx : x.In (fun _ => True) w) (hy : y.In (fun _ => True) w) :
    Calls Try.prog 24 #[x.val, y.val] w fun e w' => e = .returned (.bool true) ∧ Turned (fun _ => False) w w' := by
  have h2 := twoBox w (.cells #[.int .i64 x.kind, .int .i64 x.n, .string x.name, .slice x.at_.1 x.args.length x.at_.2] 27) (.cells #[.int .i64 y.kind, .int .i64 y.n, .string y.name, .slice y.at_.1 y.args.length y.at_.2] 27)
  obtain ⟨w2, hw2⟩ : ∃ z, z = (w.alloc (.cells #[.int .i64 x.kind, .int .i64 x.n, .string x.name, .slice x.at_.1 x.args.length x.at_.2] 27)).alloc (.cells #[.int .i64 y.kind, .int .i64 y.n, .string y.name, .slice y.at_.1 y.args.length y.at_.2] 27) := ⟨_, rfl⟩
  rw [← hw2] at h2
  have hkp : ∀ W, Turned (fun _ => False) w2 W → (W.cell? ⟨w.heap.size, 0, none⟩ = some (.int .i64 x.kind) ∧ W.cell? ⟨w.heap.size, 1, none⟩ = some (.int .i64 x.n) ∧ W.cell? ⟨w.heap.size, 2, none⟩ = some (.string x.name) ∧ W.cell? ⟨w.heap.size, 3, none⟩ = some (.slice x.at_.1 x.args.length x.at_.2)) ∧ (W.cell? ⟨w.heap.size + 1, 0, none⟩ = some (.int .i64 y.kind) ∧ W.cell? ⟨w.heap.size + 1, 1, none⟩ = some (.int .i64 y.n) ∧ W.cell? ⟨w.heap.size + 1, 2, none⟩ = some (.string y.name) ∧ W.cell? ⟨w.heap.size + 1, 3, none⟩ = some (.slice y.at_.1 y.args.length y.at_.2)) := fun W h =>
    ⟨four_of ((h.block _ (by have := h2.2.1; omega) (fun f => f)).trans h2.2.2.1), four_of ((h.block _ (by have := h2.2.1; omega) (fun f => f)).trans h2.2.2.2)⟩
  have HKP := Lib.hid hkp
  have HW2 := Lib.hid hw2
  have HT2 := Lib.hid h2.1
  have HX := Lib.hid (hx.turned0 h2.1)
  have HY := Lib.hid (hy.turned0 h2.1)
  rw [LT.val_eq, LT.val_eq y]
  clear hkp hw2 h2 hx hy
  cases dx : deepB 30 x with
  | true =>
    have HDX := Lib.hid dx
    clear dx
    go_enter Try.func24, Try.ntmps24
    go_wp2_with (first
      | (go_at_call 108; refine (awake108 _).mono ?_; rintro e W0 ⟨rfl, T0⟩; rw [← HW2.out] at T0; have S0 := T0; obtain ⟨⟨c0, c1, c2, c3⟩, d0, d1, d2, d3⟩ := HKP.out _ S0)
      | (go_at_call 113; (with_reducible refine (deepVal113 30 x _ 30 rfl (by omega) (HX.out.turned0 S0)).mono ?_); rintro e W1 ⟨rfl, T1⟩; rw [HDX.out]))
    go_ret
    exact ⟨rfl, (HT2.out.trans S0).trans T1⟩
  | false =>
  have HDX := Lib.hid dx
  have HSX := Lib.hid (deep_slim 30 x dx)
  clear dx
  cases dy : deepB 30 y with
  | true =>
    have HDY := Lib.hid dy
    clear dy
    go_enter Try.func24, Try.ntmps24
    go_wp2_with (first
      | (go_at_call 108; refine (awake108 _).mono ?_; rintro e W0 ⟨rfl, T0⟩; rw [← HW2.out] at T0; have S0 := T0; obtain ⟨⟨c0, c1, c2, c3⟩, d0, d1, d2, d3⟩ := HKP.out _ S0)
      | (go_at_call 113; (with_reducible refine (deepVal113 30 x _ 30 rfl (by omega) (HX.out.turned0 S0)).mono ?_); rintro e W1 ⟨rfl, T1⟩; rw [HDX.out]; obtain ⟨⟨c0, c1, c2, c3⟩, d0, d1, d2, d3⟩ := HKP.out _ (S0.trans T1))
      | (go_at_call 113; (with_reducible refine (deepVal113 30 y _ 30 rfl (by omega) (HY.out.turned0 (S0.trans T1))).mono ?_); rintro e W2 ⟨rfl, T2⟩; rw [HDY.out]))
    go_ret
    exact ⟨rfl, ((HT2.out.trans S0).trans T1).trans T2⟩
  | false =>
  have HDY := Lib.hid dy
  have HSY := Lib.hid (deep_slim 30 y dy)
  clear dy
  obtain ⟨R1, hR1⟩ : ∃ z, z = bothR 8 (bt []) x.bare y.bare := ⟨_, rfl⟩
  obtain ⟨p, k1, e1, t1⟩ := R1
  have HR1 := Lib.hid hR1.symm
  obtain ⟨R2, hR2⟩ : ∃ z, z = bothR 8 (bt []) y.bare x.bare := ⟨_, rfl⟩
  obtain ⟨q, k2, e2, t2⟩ := R2
  have HR2 := Lib.hid hR2.symm
  clear hR1 hR2
  by_cases h1 : e1 = 0
  · by_cases h2 : e2 = 0
    · subst h1 h2
      obtain rfl : q = p := (both_same (m := 8) (by omega) HR1.out HR2.out).symm
      cases q with
      | false =>
        obtain ⟨_, _, _, _, hz1⟩ := both_own (m := 8) (by omega) HR1.out
        obtain ⟨_, _, _, _, hz2⟩ := both_own (m := 8) (by omega) HR2.out
        obtain ⟨rfl, _⟩ := hz1 rfl
        obtain ⟨rfl, _⟩ := hz2 rfl
        clear hz1 hz2
        go_enter Try.func24, Try.ntmps24
        go_wp2_with (first
          | (go_at_call 111; (obtain ⟨O1, O2, A1, A2, g1, g2, gd, T⟩ := HT7.out; (with_reducible refine (markZero A2 HL2.out).mono ?_); rintro e W8 ⟨rfl, T8⟩; have HT8 := Lib.hid (HT7.out.turned0 T8); clear A1 A2 g1 g2 gd T T8))
          | (go_at_call 111; (obtain ⟨O1, O2, A1, A2, g1, g2, gd, T⟩ := HT6.out; (with_reducible refine (markZero A1 HL1.out).mono ?_); rintro e W7 ⟨rfl, T7⟩; have HT7 := Lib.hid (HT6.out.turned0 T7); clear A1 A2 g1 g2 gd T T7))
          | (go_at_call 110; (have HL1 := HL1; obtain ⟨O1, O2, A1, A2, g1, g2, gd, T⟩ := HT5.out.swap; have hxn := ((HX.out.turned0 HS2.out).mono (q := fun k => k < W2.heap.size) (fun k hk _ => hk)).turned0 T; have hyn := ((HY.out.turned0 HS2.out).mono (q := fun k => k < W2.heap.size) (fun k hk _ => hk)).turned0 T; (with_reducible refine (bothVal A1 hyn HSY.out hxn HSX.out HR2.out).mono ?_); rintro e W6 ⟨rfl, l2, hl2, A⟩; have HT6 := Lib.hid (Two.step1 rfl A1 A2 g1 g2 gd T A).swap; have HL2 := Lib.hid hl2; obtain ⟨_, _, _, _, _, _, _, T6⟩ := HT6.out; obtain ⟨⟨c0, c1, c2, c3⟩, d0, d1, d2, d3⟩ := HKP.out _ (HS2.out.trans T6); clear A1 A2 g1 g2 gd T hxn hyn hl2 A T6))
          | (go_at_call 110; (obtain ⟨O1, O2, A1, A2, g1, g2, gd, T⟩ := HT4.out; have hxn := ((HX.out.turned0 HS2.out).mono (q := fun k => k < W2.heap.size) (fun k hk _ => hk)).turned0 T; have hyn := ((HY.out.turned0 HS2.out).mono (q := fun k => k < W2.heap.size) (fun k hk _ => hk)).turned0 T; (with_reducible refine (bothVal A1 hxn HSX.out hyn HSY.out HR1.out).mono ?_); rintro e W5 ⟨rfl, l1, hl1, A⟩; have HT5 := Lib.hid (Two.step1 rfl A1 A2 g1 g2 gd T A); have HL1 := Lib.hid hl1; obtain ⟨_, _, _, _, _, _, _, T5⟩ := HT5.out; obtain ⟨⟨c0, c1, c2, c3⟩, d0, d1, d2, d3⟩ := HKP.out _ (HS2.out.trans T5); clear A1 A2 g1 g2 gd T hxn hyn hl1 A T5))
          | (go_at_call 109; have H3 := H3; (with_reducible refine (both8 W3).mono ?_); rintro e W4 ⟨b2, wb2, rfl, h4⟩; have HT4 := Lib.hid (Two.start H3.out h4.binds rfl); obtain ⟨_, _, _, _, _, _, _, T4⟩ := HT4.out; obtain ⟨⟨c0, c1, c2, c3⟩, d0, d1, d2, d3⟩ := HKP.out _ (HS2.out.trans T4); clear T4 h4)
          | (go_at_call 109; (with_reducible refine (both8 W2).mono ?_); rintro e W3 ⟨bb, wb, rfl, h3⟩; have H3 := Lib.hid h3.binds; obtain ⟨_, _, _, T3⟩ := H3.out; obtain ⟨⟨c0, c1, c2, c3⟩, d0, d1, d2, d3⟩ := HKP.out _ (HS2.out.trans T3); clear T3 h3)
          | (go_at_call 113; have S1 := S1; (with_reducible refine (deepVal113 30 y _ 30 rfl (by omega) (HY.out.turned0 S1)).mono ?_); rintro e W2 ⟨rfl, T2⟩; rw [HDY.out]; have HS2 := Lib.hid (S1.trans T2); obtain ⟨⟨c0, c1, c2, c3⟩, d0, d1, d2, d3⟩ := HKP.out _ HS2.out; clear S1 T2)
          | (go_at_call 113; (with_reducible refine (deepVal113 30 x _ 30 rfl (by omega) (HX.out.turned0 S0)).mono ?_); rintro e W1 ⟨rfl, T1⟩; rw [HDX.out]; have S1 := S0.trans T1; obtain ⟨⟨c0, c1, c2, c3⟩, d0, d1, d2, d3⟩ := HKP.out _ S1; clear S0 T0 T1)
          | (go_at_call 108; refine (awake108 _).mono ?_; rintro e W0 ⟨rfl, T0⟩; rw [← HW2.out] at T0; have S0 := T0; obtain ⟨⟨c0, c1, c2, c3⟩, d0, d1, d2, d3⟩ := HKP.out _ S0))
        go_ret
        exact ⟨rfl, (HT2.out.trans HS2.out).trans (by obtain ⟨_, _, _, _, _, _, _, T⟩ := HT8.out; exact T)⟩
      | true =>
        obtain ⟨m1, m2⟩ := makes_whole HR1.out HR2.out
        have hcase := wholeE_cases 8 t1 x.bare
        have hne : ¬ wholeE 8 t1 x.bare = 1 := by
          obtain ⟨ox, _⟩ := both_own (m := 8) (by omega) HR1.out
          unfold wholeE; rw [if_pos ox]; split <;> decide
        rcases hcase with hE | hE | hE
        · have HE0 := Lib.hid hE
          have HE1 := Lib.hid (fun (l : TL) (h : bt l = t1) => (show wholeE 8 (bt l) x.bare = _ from h ▸ hE))
          have HE2 := Lib.hid (fun (l : TL) (h : bt l = t1) => (show wholeE 8 (bt l) y.bare = _ from h ▸ (m1.trans hE)))
          have HE3 := Lib.hid (fun (l : TL) (h : bt l = t2) => (show wholeE 8 (bt l) x.bare = _ from h ▸ (m2.trans hE)))
          clear hE hne m1 m2
          go_enter Try.func24, Try.ntmps24
          go_wp2_with (first
            | (go_at_call 89; (have HUv := HUv; obtain ⟨O1, O2, A1, A2, g1, g2, gd, T⟩ := HT8.out; have hxn := ((HX.out.turned0 HS2.out).mono (q := fun k => k < W2.heap.size) (fun k hk _ => hk)).turned0 T; have hyn := ((HY.out.turned0 HS2.out).mono (q := fun k => k < W2.heap.size) (fun k hk _ => hk)).turned0 T; (with_reducible refine (wholeVal A2 hxn HSX.out (HE3.out _ HL2.out)).mono ?_); rintro e W9 ⟨z, rfl, hub, hui, T9⟩; have T9b := T9.alloc (.cells #[.int .i64 z.kind, .int .i64 z.n, .string z.name, .slice z.at_.1 z.args.length z.at_.2] 27); have HT9 := Lib.hid (HT8.out.turned0 T9b); have HBz := Lib.hid (heap_alloc_new W9 (.cells #[.int .i64 z.kind, .int .i64 z.n, .string z.name, .slice z.at_.1 z.args.length z.at_.2] 27)); have HUz := Lib.hid hub; have HIz := Lib.hid ((hui.mono (q := fun _ => True) (fun _ _ _ => trivial)).turned0 ((Turned.refl _ W9).alloc (.cells #[.int .i64 z.kind, .int .i64 z.n, .string z.name, .slice z.at_.1 z.args.length z.at_.2] 27))); have HVz := Lib.hid T9b; obtain ⟨_, _, _, _, _, _, _, TQ⟩ := HT9.out; obtain ⟨⟨c0, c1, c2, c3⟩, d0, d1, d2, d3⟩ := HKP.out _ (HS2.out.trans TQ); clear A1 A2 g1 g2 gd T TQ hxn hyn hub hui T9 T9b))
            | (go_at_call 89; (have HUu := HUu; obtain ⟨O1, O2, A1, A2, g1, g2, gd, T⟩ := HT7.out; have hxn := ((HX.out.turned0 HS2.out).mono (q := fun k => k < W2.heap.size) (fun k hk _ => hk)).turned0 T; have hyn := ((HY.out.turned0 HS2.out).mono (q := fun k => k < W2.heap.size) (fun k hk _ => hk)).turned0 T; (with_reducible refine (wholeVal A1 hyn HSY.out (HE2.out _ HL1.out)).mono ?_); rintro e W8 ⟨v, rfl, hub, hui, T8⟩; have T8b := T8.alloc (.cells #[.int .i64 v.kind, .int .i64 v.n, .string v.name, .slice v.at_.1 v.args.length v.at_.2] 27); have HT8 := Lib.hid (HT7.out.turned0 T8b); have HBv := Lib.hid (heap_alloc_new W8 (.cells #[.int .i64 v.kind, .int .i64 v.n, .string v.name, .slice v.at_.1 v.args.length v.at_.2] 27)); have HUv := Lib.hid hub; have HIv := Lib.hid ((hui.mono (q := fun _ => True) (fun _ _ _ => trivial)).turned0 ((Turned.refl _ W8).alloc (.cells #[.int .i64 v.kind, .int .i64 v.n, .string v.name, .slice v.at_.1 v.args.length v.at_.2] 27))); have HVv := Lib.hid T8b; obtain ⟨_, _, _, _, _, _, _, TQ⟩ := HT8.out; obtain ⟨⟨c0, c1, c2, c3⟩, d0, d1, d2, d3⟩ := HKP.out _ (HS2.out.trans TQ); clear A1 A2 g1 g2 gd T TQ hxn hyn hub hui T8 T8b))
            | (go_at_call 89; (obtain ⟨O1, O2, A1, A2, g1, g2, gd, T⟩ := HT6.out; have hxn := ((HX.out.turned0 HS2.out).mono (q := fun k => k < W2.heap.size) (fun k hk _ => hk)).turned0 T; have hyn := ((HY.out.turned0 HS2.out).mono (q := fun k => k < W2.heap.size) (fun k hk _ => hk)).turned0 T; (with_reducible refine (wholeVal A1 hxn HSX.out (HE1.out _ HL1.out)).mono ?_); rintro e W7 ⟨u, rfl, hub, hui, T7⟩; have T7b := T7.alloc (.cells #[.int .i64 u.kind, .int .i64 u.n, .string u.name, .slice u.at_.1 u.args.length u.at_.2] 27); have HT7 := Lib.hid (HT6.out.turned0 T7b); have HBu := Lib.hid (heap_alloc_new W7 (.cells #[.int .i64 u.kind, .int .i64 u.n, .string u.name, .slice u.at_.1 u.args.length u.at_.2] 27)); have HUu := Lib.hid hub; have HIu := Lib.hid ((hui.mono (q := fun _ => True) (fun _ _ _ => trivial)).turned0 ((Turned.refl _ W7).alloc (.cells #[.int .i64 u.kind, .int .i64 u.n, .string u.name, .slice u.at_.1 u.args.length u.at_.2] 27))); have HVu := Lib.hid T7b; obtain ⟨_, _, _, _, _, _, _, TQ⟩ := HT7.out; obtain ⟨⟨c0, c1, c2, c3⟩, d0, d1, d2, d3⟩ := HKP.out _ (HS2.out.trans TQ); clear A1 A2 g1 g2 gd T TQ hxn hyn hub hui T7 T7b))
            | (go_at_call 110; (have HL1 := HL1; obtain ⟨O1, O2, A1, A2, g1, g2, gd, T⟩ := HT5.out.swap; have hxn := ((HX.out.turned0 HS2.out).mono (q := fun k => k < W2.heap.size) (fun k hk _ => hk)).turned0 T; have hyn := ((HY.out.turned0 HS2.out).mono (q := fun k => k < W2.heap.size) (fun k hk _ => hk)).turned0 T; (with_reducible refine (bothVal A1 hyn HSY.out hxn HSX.out HR2.out).mono ?_); rintro e W6 ⟨rfl, l2, hl2, A⟩; have HT6 := Lib.hid (Two.step1 rfl A1 A2 g1 g2 gd T A).swap; have HL2 := Lib.hid hl2; obtain ⟨_, _, _, _, _, _, _, T6⟩ := HT6.out; obtain ⟨⟨c0, c1, c2, c3⟩, d0, d1, d2, d3⟩ := HKP.out _ (HS2.out.trans T6); clear A1 A2 g1 g2 gd T hxn hyn hl2 A T6))
            | (go_at_call 110; (obtain ⟨O1, O2, A1, A2, g1, g2, gd, T⟩ := HT4.out; have hxn := ((HX.out.turned0 HS2.out).mono (q := fun k => k < W2.heap.size) (fun k hk _ => hk)).turned0 T; have hyn := ((HY.out.turned0 HS2.out).mono (q := fun k => k < W2.heap.size) (fun k hk _ => hk)).turned0 T; (with_reducible refine (bothVal A1 hxn HSX.out hyn HSY.out HR1.out).mono ?_); rintro e W5 ⟨rfl, l1, hl1, A⟩; have HT5 := Lib.hid (Two.step1 rfl A1 A2 g1 g2 gd T A); have HL1 := Lib.hid hl1; obtain ⟨_, _, _, _, _, _, _, T5⟩ := HT5.out; obtain ⟨⟨c0, c1, c2, c3⟩, d0, d1, d2, d3⟩ := HKP.out _ (HS2.out.trans T5); clear A1 A2 g1 g2 gd T hxn hyn hl1 A T5))
            | (go_at_call 109; have H3 := H3; (with_reducible refine (both8 W3).mono ?_); rintro e W4 ⟨b2, wb2, rfl, h4⟩; have HT4 := Lib.hid (Two.start H3.out h4.binds rfl); obtain ⟨_, _, _, _, _, _, _, T4⟩ := HT4.out; obtain ⟨⟨c0, c1, c2, c3⟩, d0, d1, d2, d3⟩ := HKP.out _ (HS2.out.trans T4); clear T4 h4)
            | (go_at_call 109; (with_reducible refine (both8 W2).mono ?_); rintro e W3 ⟨bb, wb, rfl, h3⟩; have H3 := Lib.hid h3.binds; obtain ⟨_, _, _, T3⟩ := H3.out; obtain ⟨⟨c0, c1, c2, c3⟩, d0, d1, d2, d3⟩ := HKP.out _ (HS2.out.trans T3); clear T3 h3)
            | (go_at_call 113; have S1 := S1; (with_reducible refine (deepVal113 30 y _ 30 rfl (by omega) (HY.out.turned0 S1)).mono ?_); rintro e W2 ⟨rfl, T2⟩; rw [HDY.out]; have HS2 := Lib.hid (S1.trans T2); obtain ⟨⟨c0, c1, c2, c3⟩, d0, d1, d2, d3⟩ := HKP.out _ HS2.out; clear S1 T2)
            | (go_at_call 113; (with_reducible refine (deepVal113 30 x _ 30 rfl (by omega) (HX.out.turned0 S0)).mono ?_); rintro e W1 ⟨rfl, T1⟩; rw [HDX.out]; have S1 := S0.trans T1; obtain ⟨⟨c0, c1, c2, c3⟩, d0, d1, d2, d3⟩ := HKP.out _ S1; clear S0 T0 T1)
            | (go_at_call 108; refine (awake108 _).mono ?_; rintro e W0 ⟨rfl, T0⟩; rw [← HW2.out] at T0; have S0 := T0; obtain ⟨⟨c0, c1, c2, c3⟩, d0, d1, d2, d3⟩ := HKP.out _ S0))
          have HCu := Lib.hid (fun W (T : Turned (fun _ => False) (W9.alloc (.cells #[.int .i64 z.kind, .int .i64 z.n, .string z.name, .slice z.at_.1 z.args.length z.at_.2] 27)) W) => (T.block _ (Nat.lt_of_lt_of_le (Array.getElem?_eq_some_iff.1 HBu.out).1 (HVv.out.trans HVz.out).size) (fun f => f)).trans (((HVv.out.trans HVz.out).block _ (Array.getElem?_eq_some_iff.1 HBu.out).1 (fun f => f)).trans HBu.out))
          have HCv := Lib.hid (fun W (T : Turned (fun _ => False) (W9.alloc (.cells #[.int .i64 z.kind, .int .i64 z.n, .string z.name, .slice z.at_.1 z.args.length z.at_.2] 27)) W) => (T.block _ (Nat.lt_of_lt_of_le (Array.getElem?_eq_some_iff.1 HBv.out).1 HVz.out.size) (fun f => f)).trans ((HVz.out.block _ (Array.getElem?_eq_some_iff.1 HBv.out).1 (fun f => f)).trans HBv.out))
          have HCz := Lib.hid (fun W (T : Turned (fun _ => False) (W9.alloc (.cells #[.int .i64 z.kind, .int .i64 z.n, .string z.name, .slice z.at_.1 z.args.length z.at_.2] 27)) W) => (T.block _ (Array.getElem?_eq_some_iff.1 HBz.out).1 (fun f => f)).trans HBz.out)
          replace HIu := Lib.hid (fun W (T : Turned (fun _ => False) (W9.alloc (.cells #[.int .i64 z.kind, .int .i64 z.n, .string z.name, .slice z.at_.1 z.args.length z.at_.2] 27)) W) => (HIu.out.turned0 (HVv.out.trans HVz.out)).turned0 T)
          replace HIv := Lib.hid (fun W (T : Turned (fun _ => False) (W9.alloc (.cells #[.int .i64 z.kind, .int .i64 z.n, .string z.name, .slice z.at_.1 z.args.length z.at_.2] 27)) W) => (HIv.out.turned0 HVz.out).turned0 T)
          replace HIz := Lib.hid (fun W (T : Turned (fun _ => False) (W9.alloc (.cells #[.int .i64 z.kind, .int .i64 z.n, .string z.name, .slice z.at_.1 z.args.length z.at_.2] 27)) W) => HIz.out.turned0 T)
          obtain ⟨hsm, hal, gu, gv, gz⟩ := makes_eq HR1.out HR2.out HE0.out (by rw [← HL1.out]; exact HUu.out) (by rw [← HL1.out]; exact HUv.out) (by rw [← HL2.out]; exact HUz.out)
          have HSM := Lib.hid hsm
          have HAL := Lib.hid hal
          have HGu := Lib.hid gu
          have HGv := Lib.hid gv
          have HGz := Lib.hid gz
          clear hsm hal gu gv gz
          clear c0 c1 c2 c3 d0 d1 d2 d3
          refine wp_region_ssa' (G := (fun dd vv W => (match dd with | 96 => vv = .int .i64 0 | 97 => vv = .bool false | 98 => vv = .bool false | 99 => vv = undef | 100 => vv = undef | 101 => vv = .bool false | 102 => vv = .bool false | 103 => vv = .int .i64 0 | 104 => vv = .bool true | 105 => vv = .bool true | 106 => vv = .int .i64 0 | 107 => vv = .bool true | 108 => vv = .bool true | 109 => vv = .bool true | 110 => vv = .int .i64 0 | 111 => vv = .bool true | 112 => vv = .bool true | 113 => vv = .bool true | 114 => vv = .agg #[.int .i64 u.kind, .int .i64 u.n, .string u.name, .slice u.at_.1 u.args.length u.at_.2] | 115 => vv = .agg #[.int .i64 v.kind, .int .i64 v.n, .string v.name, .slice v.at_.1 v.args.length v.at_.2] | 116 => vv = .bool true | 117 => vv = .bool true | 118 => vv = .bool true | 119 => vv = .agg #[.int .i64 u.kind, .int .i64 u.n, .string u.name, .slice u.at_.1 u.args.length u.at_.2] | 121 => vv = .agg #[.int .i64 z.kind, .int .i64 z.n, .string z.name, .slice z.at_.1 z.args.length z.at_.2] | 123 => vv = .bool true | 124 => vv = .bool true | 125 => vv = .bool true | 4 => vv = .bool true | 120 => ∃ q : LT, vv = .agg #[.int .i64 q.kind, .int .i64 q.n, .string q.name, .slice q.at_.1 q.args.length q.at_.2] ∧ q.In (fun _ => True) W ∧ q.bare = u.bare | 122 => ∃ q : LT, vv = .agg #[.int .i64 q.kind, .int .i64 q.n, .string q.name, .slice q.at_.1 q.args.length q.at_.2] ∧ q.In (fun _ => True) W ∧ q.bare = z.bare | _ => True : Prop))) [96, 97, 98, 99, 100, 101, 102, 103, 104, 105, 106, 107, 108, 109, 110, 111, 112, 113, 114, 115, 116, 117, 118, 119, 120, 121, 122, 123, 124, 125, 4] (by kernel_rfl) rfl (by kernel_rfl) ?hG ?hs ?hQ
          case hG =>
            intro d vv W W2 T h
            split at h <;> first
              | exact h
              | (obtain ⟨x, x1, x2, x3⟩ := h; exact ⟨x, x1, x2.turned0 T, x3⟩)
          case hs =>
            refine ⟨?s0, ?s1, ?s2, ?s3, ?s4, ?s5, ?s6, ?s7, ?s8, ?s9, ?s10, ?s11, ?s12, ?s13, ?s14, ?s15, ?s16, ?s17, ?s18, ?s19, ?s20, ?s21, ?s22, ?s23, ?s24, ?s25, ?s26, ?s27, ?s28, ?s29, ?s30, trivial⟩
            case s0 =>
              refine stepOk_free [] [16] (by kernel_rfl) rfl ?_
              intro ac W hT hI hO
              have h16 : ac.tmps.getD 16 undef = .int .i64 0 := hO 16 (by simp)
              show Brings Try.prog (fun vv w' => Turned (fun _ => False) W w' ∧ vv = .int .i64 0) _
              simp only [execOp, Act.eval, h16]
              go_simp
              try exact ⟨Turned.refl _ _, rfl⟩
            case s1 =>
              refine stepOk_free [96] [] (by kernel_rfl) rfl ?_
              intro ac W hT hI hO
              have h96 : ac.tmps.getD 96 undef = .int .i64 0 := hI 96 (by simp)
              show Brings Try.prog (fun vv w' => Turned (fun _ => False) W w' ∧ vv = .bool false) _
              simp only [execOp, Act.eval, h96]
              go_simp
              try exact ⟨Turned.refl _ _, rfl⟩
            case s2 =>
              refine stepOk_free [97] [] (by kernel_rfl) rfl ?_
              intro ac W hT hI hO
              have h97 : ac.tmps.getD 97 undef = .bool false := hI 97 (by simp)
              show Brings Try.prog (fun vv w' => Turned (fun _ => False) W w' ∧ vv = .bool false) _
              simp only [execOp, Act.eval, h97]
              go_simp
              try exact ⟨Turned.refl _ _, rfl⟩
            case s3 => exact stepOk_guard [98] [18] (by kernel_rfl) 2 true 98 rfl rfl (by simp) true false (fun _ _ h => h) (fun hc => by cases hc) (fun _ _ => rfl)
            case s4 => exact stepOk_guard [99, 98] [] (by kernel_rfl) 2 true 98 rfl rfl (by simp) true false (fun _ _ h => h) (fun hc => by cases hc) (fun _ _ => rfl)
            case s5 =>
              refine stepOk_free [98, 100] [] (by kernel_rfl) rfl ?_
              intro ac W hT hI hO
              have h98 : ac.tmps.getD 98 undef = .bool false := hI 98 (by simp)
              have h100 : ac.tmps.getD 100 undef = undef := hI 100 (by simp)
              show Brings Try.prog (fun vv w' => Turned (fun _ => False) W w' ∧ vv = .bool false) _
              simp only [execOp, Act.eval, h98, h100]
              go_simp
              try exact ⟨Turned.refl _ _, rfl⟩
            case s6 =>
              refine stepOk_free [101] [] (by kernel_rfl) rfl ?_
              intro ac W hT hI hO
              have h101 : ac.tmps.getD 101 undef = .bool false := hI 101 (by simp)
              show Brings Try.prog (fun vv w' => Turned (fun _ => False) W w' ∧ vv = .bool false) _
              simp only [execOp, Act.eval, h101]
              go_simp
              try exact ⟨Turned.refl _ _, rfl⟩
            case s7 =>
              refine stepOk_guard [102] [16] (by kernel_rfl) 6 false 102 rfl rfl (by simp) true false (fun _ _ h => h) (fun hc => ?_) (fun hc => by cases hc)
              intro ac W hT hI hO
              have h16 : ac.tmps.getD 16 undef = .int .i64 0 := hO 16 (by simp)
              show Brings Try.prog (fun vv w' => Turned (fun _ => False) W w' ∧ vv = .int .i64 0) _
              simp only [execOp, Act.eval, h16]
              go_simp
              try exact ⟨Turned.refl _ _, rfl⟩
            case s8 =>
              refine stepOk_guard [103, 102] [] (by kernel_rfl) 6 false 102 rfl rfl (by simp) true false (fun _ _ h => h) (fun hc => ?_) (fun hc => by cases hc)
              intro ac W hT hI hO
              have h103 : ac.tmps.getD 103 undef = .int .i64 0 := hI 103 (by simp)
              show Brings Try.prog (fun vv w' => Turned (fun _ => False) W w' ∧ vv = .bool true) _
              simp only [execOp, Act.eval, h103]
              go_simp
              try exact ⟨Turned.refl _ _, rfl⟩
            case s9 =>
              refine stepOk_guard [104, 102] [] (by kernel_rfl) 6 false 102 rfl rfl (by simp) true false (fun _ _ h => h) (fun hc => ?_) (fun hc => by cases hc)
              intro ac W hT hI hO
              have h104 : ac.tmps.getD 104 undef = .bool true := hI 104 (by simp)
              show Brings Try.prog (fun vv w' => Turned (fun _ => False) W w' ∧ vv = .bool true) _
              simp only [execOp, Act.eval, h104]
              go_simp
              try exact ⟨Turned.refl _ _, rfl⟩
            case s10 =>
              refine stepOk_guard [105] [18] (by kernel_rfl) 9 true 105 rfl rfl (by simp) true true (fun _ _ h => h) (fun hc => ?_) (fun hc => by cases hc)
              intro ac W hT hI hO
              have h18 : ac.tmps.getD 18 undef = .int .i64 0 := hO 18 (by simp)
              show Brings Try.prog (fun vv w' => Turned (fun _ => False) W w' ∧ vv = .int .i64 0) _
              simp only [execOp, Act.eval, h18]
              go_simp
              try exact ⟨Turned.refl _ _, rfl⟩
            case s11 =>
              refine stepOk_guard [106, 105] [] (by kernel_rfl) 9 true 105 rfl rfl (by simp) true true (fun _ _ h => h) (fun hc => ?_) (fun hc => by cases hc)
              intro ac W hT hI hO
              have h106 : ac.tmps.getD 106 undef = .int .i64 0 := hI 106 (by simp)
              show Brings Try.prog (fun vv w' => Turned (fun _ => False) W w' ∧ vv = .bool true) _
              simp only [execOp, Act.eval, h106]
              go_simp
              try exact ⟨Turned.refl _ _, rfl⟩
            case s12 =>
              refine stepOk_guard [105, 107, 102] [] (by kernel_rfl) 6 false 102 rfl rfl (by simp) true false (fun _ _ h => h) (fun hc => ?_) (fun hc => by cases hc)
              intro ac W hT hI hO
              have h105 : ac.tmps.getD 105 undef = .bool true := hI 105 (by simp)
              have h107 : ac.tmps.getD 107 undef = .bool true := hI 107 (by simp)
              show Brings Try.prog (fun vv w' => Turned (fun _ => False) W w' ∧ vv = .bool true) _
              simp only [execOp, Act.eval, h105, h107]
              go_simp
              try exact ⟨Turned.refl _ _, rfl⟩
            case s13 =>
              refine stepOk_guard [108, 102] [] (by kernel_rfl) 6 false 102 rfl rfl (by simp) true false (fun _ _ h => h) (fun hc => ?_) (fun hc => by cases hc)
              intro ac W hT hI hO
              have h108 : ac.tmps.getD 108 undef = .bool true := hI 108 (by simp)
              show Brings Try.prog (fun vv w' => Turned (fun _ => False) W w' ∧ vv = .bool true) _
              simp only [execOp, Act.eval, h108]
              go_simp
              try exact ⟨Turned.refl _ _, rfl⟩
            case s14 =>
              refine stepOk_guard [109] [20] (by kernel_rfl) 13 true 109 rfl rfl (by simp) true true (fun _ _ h => h) (fun hc => ?_) (fun hc => by cases hc)
              intro ac W hT hI hO
              have h20 : ac.tmps.getD 20 undef = .int .i64 0 := hO 20 (by simp)
              show Brings Try.prog (fun vv w' => Turned (fun _ => False) W w' ∧ vv = .int .i64 0) _
              simp only [execOp, Act.eval, h20]
              go_simp
              try exact ⟨Turned.refl _ _, rfl⟩
            case s15 =>
              refine stepOk_guard [110, 109] [] (by kernel_rfl) 13 true 109 rfl rfl (by simp) true true (fun _ _ h => h) (fun hc => ?_) (fun hc => by cases hc)
              intro ac W hT hI hO
              have h110 : ac.tmps.getD 110 undef = .int .i64 0 := hI 110 (by simp)
              show Brings Try.prog (fun vv w' => Turned (fun _ => False) W w' ∧ vv = .bool true) _
              simp only [execOp, Act.eval, h110]
              go_simp
              try exact ⟨Turned.refl _ _, rfl⟩
            case s16 =>
              refine stepOk_guard [109, 111, 102] [] (by kernel_rfl) 6 false 102 rfl rfl (by simp) true false (fun _ _ h => h) (fun hc => ?_) (fun hc => by cases hc)
              intro ac W hT hI hO
              have h109 : ac.tmps.getD 109 undef = .bool true := hI 109 (by simp)
              have h111 : ac.tmps.getD 111 undef = .bool true := hI 111 (by simp)
              show Brings Try.prog (fun vv w' => Turned (fun _ => False) W w' ∧ vv = .bool true) _
              simp only [execOp, Act.eval, h109, h111]
              go_simp
              try exact ⟨Turned.refl _ _, rfl⟩
            case s17 =>
              refine stepOk_guard [112, 102] [] (by kernel_rfl) 6 false 102 rfl rfl (by simp) true false (fun _ _ h => h) (fun hc => ?_) (fun hc => by cases hc)
              intro ac W hT hI hO
              have h112 : ac.tmps.getD 112 undef = .bool true := hI 112 (by simp)
              show Brings Try.prog (fun vv w' => Turned (fun _ => False) W w' ∧ vv = .bool true) _
              simp only [execOp, Act.eval, h112]
              go_simp
              try exact ⟨Turned.refl _ _, rfl⟩
            case s18 =>
              refine stepOk_guard [113] [15] (by kernel_rfl) 17 true 113 rfl rfl (by simp) true true (fun _ _ h => h) (fun hc => ?_) (fun hc => by cases hc)
              intro ac W hT hI hO
              have h15 : ac.tmps.getD 15 undef = .pointer (some ⟨W7.heap.size, 0, none⟩) := hO 15 (by simp)
              show Brings Try.prog (fun vv w' => Turned (fun _ => False) W w' ∧ vv = .agg #[.int .i64 u.kind, .int .i64 u.n, .string u.name, .slice u.at_.1 u.args.length u.at_.2]) _
              obtain ⟨c0, c1, c2, c3, _⟩ := cells4 (HCu.out W hT)
              simp only [execOp, Act.eval, h15]
              go_simp
              try exact ⟨Turned.refl _ _, rfl⟩
            case s19 =>
              refine stepOk_guard [113] [17] (by kernel_rfl) 17 true 113 rfl rfl (by simp) true true (fun _ _ h => h) (fun hc => ?_) (fun hc => by cases hc)
              intro ac W hT hI hO
              have h17 : ac.tmps.getD 17 undef = .pointer (some ⟨W8.heap.size, 0, none⟩) := hO 17 (by simp)
              show Brings Try.prog (fun vv w' => Turned (fun _ => False) W w' ∧ vv = .agg #[.int .i64 v.kind, .int .i64 v.n, .string v.name, .slice v.at_.1 v.args.length v.at_.2]) _
              obtain ⟨c0, c1, c2, c3, _⟩ := cells4 (HCv.out W hT)
              simp only [execOp, Act.eval, h17]
              go_simp
              try exact ⟨Turned.refl _ _, rfl⟩
            case s20 =>
              refine stepOk_guard [114, 115, 113] [] (by kernel_rfl) 17 true 113 rfl rfl (by simp) true true (fun _ _ h => h) (fun hc => ?_) (fun hc => by cases hc)
              intro ac W hT hI hO
              have h114 : ac.tmps.getD 114 undef = .agg #[.int .i64 u.kind, .int .i64 u.n, .string u.name, .slice u.at_.1 u.args.length u.at_.2] := hI 114 (by simp)
              have h115 : ac.tmps.getD 115 undef = .agg #[.int .i64 v.kind, .int .i64 v.n, .string v.name, .slice v.at_.1 v.args.length v.at_.2] := hI 115 (by simp)
              show Brings Try.prog (fun vv w' => Turned (fun _ => False) W w' ∧ vv = .bool true) _
              simp only [execOp, Act.eval, h114, h115]
              go_simp
              show Calls Try.prog 52 _ W _
              (with_reducible refine (sameVal' (HIu.out W hT) (HIv.out W hT) (good_slimB HGu.out) (good_slimB HGv.out) HSM.out).mono ?_)
              rintro e w' ⟨rfl, T'⟩
              exact ⟨_, rfl, T', rfl⟩
            case s21 =>
              refine stepOk_guard [113, 116, 102] [] (by kernel_rfl) 6 false 102 rfl rfl (by simp) true false (fun _ _ h => h) (fun hc => ?_) (fun hc => by cases hc)
              intro ac W hT hI hO
              have h113 : ac.tmps.getD 113 undef = .bool true := hI 113 (by simp)
              have h116 : ac.tmps.getD 116 undef = .bool true := hI 116 (by simp)
              show Brings Try.prog (fun vv w' => Turned (fun _ => False) W w' ∧ vv = .bool true) _
              simp only [execOp, Act.eval, h113, h116]
              go_simp
              try exact ⟨Turned.refl _ _, rfl⟩
            case s22 =>
              refine stepOk_guard [117, 102] [] (by kernel_rfl) 6 false 102 rfl rfl (by simp) true false (fun _ _ h => h) (fun hc => ?_) (fun hc => by cases hc)
              intro ac W hT hI hO
              have h117 : ac.tmps.getD 117 undef = .bool true := hI 117 (by simp)
              show Brings Try.prog (fun vv w' => Turned (fun _ => False) W w' ∧ vv = .bool true) _
              simp only [execOp, Act.eval, h117]
              go_simp
              try exact ⟨Turned.refl _ _, rfl⟩
            case s23 =>
              refine stepOk_guard [118] [15] (by kernel_rfl) 22 true 118 rfl rfl (by simp) true true (fun _ _ h => h) (fun hc => ?_) (fun hc => by cases hc)
              intro ac W hT hI hO
              have h15 : ac.tmps.getD 15 undef = .pointer (some ⟨W7.heap.size, 0, none⟩) := hO 15 (by simp)
              show Brings Try.prog (fun vv w' => Turned (fun _ => False) W w' ∧ vv = .agg #[.int .i64 u.kind, .int .i64 u.n, .string u.name, .slice u.at_.1 u.args.length u.at_.2]) _
              obtain ⟨c0, c1, c2, c3, _⟩ := cells4 (HCu.out W hT)
              simp only [execOp, Act.eval, h15]
              go_simp
              try exact ⟨Turned.refl _ _, rfl⟩
            case s24 =>
              refine stepOk_guard [119, 118] [] (by kernel_rfl) 22 true 118 rfl rfl (by simp) true true (fun _ _ h => h) (fun hc => ?_) (fun hc => by cases hc)
              intro ac W hT hI hO
              have h119 : ac.tmps.getD 119 undef = .agg #[.int .i64 u.kind, .int .i64 u.n, .string u.name, .slice u.at_.1 u.args.length u.at_.2] := hI 119 (by simp)
              show Brings Try.prog (fun vv w' => Turned (fun _ => False) W w' ∧ ∃ q : LT, vv = .agg #[.int .i64 q.kind, .int .i64 q.n, .string q.name, .slice q.at_.1 q.args.length q.at_.2] ∧ q.In (fun _ => True) w' ∧ q.bare = u.bare) _
              simp only [execOp, Act.eval, h119]
              go_simp
              show Calls Try.prog 114 _ W _
              (with_reducible refine (ownVal114 (HIu.out W hT) (good_slimB HGu.out)).mono ?_)
              rintro e w' ⟨q, rfl, h1, h2, h3⟩
              exact ⟨_, rfl, h3, q, rfl, h2, h1⟩
            case s25 =>
              refine stepOk_guard [118] [19] (by kernel_rfl) 22 true 118 rfl rfl (by simp) true true (fun _ _ h => h) (fun hc => ?_) (fun hc => by cases hc)
              intro ac W hT hI hO
              have h19 : ac.tmps.getD 19 undef = .pointer (some ⟨W9.heap.size, 0, none⟩) := hO 19 (by simp)
              show Brings Try.prog (fun vv w' => Turned (fun _ => False) W w' ∧ vv = .agg #[.int .i64 z.kind, .int .i64 z.n, .string z.name, .slice z.at_.1 z.args.length z.at_.2]) _
              obtain ⟨c0, c1, c2, c3, _⟩ := cells4 (HCz.out W hT)
              simp only [execOp, Act.eval, h19]
              go_simp
              try exact ⟨Turned.refl _ _, rfl⟩
            case s26 =>
              refine stepOk_guard [121, 118] [] (by kernel_rfl) 22 true 118 rfl rfl (by simp) true true (fun _ _ h => h) (fun hc => ?_) (fun hc => by cases hc)
              intro ac W hT hI hO
              have h121 : ac.tmps.getD 121 undef = .agg #[.int .i64 z.kind, .int .i64 z.n, .string z.name, .slice z.at_.1 z.args.length z.at_.2] := hI 121 (by simp)
              show Brings Try.prog (fun vv w' => Turned (fun _ => False) W w' ∧ ∃ q : LT, vv = .agg #[.int .i64 q.kind, .int .i64 q.n, .string q.name, .slice q.at_.1 q.args.length q.at_.2] ∧ q.In (fun _ => True) w' ∧ q.bare = z.bare) _
              simp only [execOp, Act.eval, h121]
              go_simp
              show Calls Try.prog 114 _ W _
              (with_reducible refine (ownVal114 (HIz.out W hT) (good_slimB HGz.out)).mono ?_)
              rintro e w' ⟨q, rfl, h1, h2, h3⟩
              exact ⟨_, rfl, h3, q, rfl, h2, h1⟩
            case s27 =>
              refine stepOk_guard [120, 122, 118] [] (by kernel_rfl) 22 true 118 rfl rfl (by simp) true true (fun _ _ h => h) (fun hc => ?_) (fun hc => by cases hc)
              intro ac W hT hI hO
              have h120 := hI 120 (by simp)
              obtain ⟨qx, h120, x2, x3⟩ : ∃ q : LT, ac.tmps.getD 120 undef = .agg #[.int .i64 q.kind, .int .i64 q.n, .string q.name, .slice q.at_.1 q.args.length q.at_.2] ∧ q.In (fun _ => True) W ∧ q.bare = u.bare := h120
              have h122 := hI 122 (by simp)
              obtain ⟨qy, h122, y2, y3⟩ : ∃ q : LT, ac.tmps.getD 122 undef = .agg #[.int .i64 q.kind, .int .i64 q.n, .string q.name, .slice q.at_.1 q.args.length q.at_.2] ∧ q.In (fun _ => True) W ∧ q.bare = z.bare := h122
              show Brings Try.prog (fun vv w' => Turned (fun _ => False) W w' ∧ vv = .bool true) _
              simp only [execOp, Act.eval, h120, h122]
              go_simp
              show Calls Try.prog 82 _ W _
              (with_reducible refine (alikeVal82 x2 y2 (HAL.out _ _ x3 y3)).mono ?_)
              rintro e w' ⟨rfl, T'⟩
              exact ⟨_, rfl, T', rfl⟩
            case s28 =>
              refine stepOk_guard [118, 123, 102] [] (by kernel_rfl) 6 false 102 rfl rfl (by simp) true false (fun _ _ h => h) (fun hc => ?_) (fun hc => by cases hc)
              intro ac W hT hI hO
              have h118 : ac.tmps.getD 118 undef = .bool true := hI 118 (by simp)
              have h123 : ac.tmps.getD 123 undef = .bool true := hI 123 (by simp)
              show Brings Try.prog (fun vv w' => Turned (fun _ => False) W w' ∧ vv = .bool true) _
              simp only [execOp, Act.eval, h118, h123]
              go_simp
              try exact ⟨Turned.refl _ _, rfl⟩
            case s29 =>
              refine stepOk_free [102, 124] [] (by kernel_rfl) rfl ?_
              intro ac W hT hI hO
              have h102 : ac.tmps.getD 102 undef = .bool false := hI 102 (by simp)
              have h124 : ac.tmps.getD 124 undef = .bool true := hI 124 (by simp)
              show Brings Try.prog (fun vv w' => Turned (fun _ => False) W w' ∧ vv = .bool true) _
              simp only [execOp, Act.eval, h102, h124]
              go_simp
              try exact ⟨Turned.refl _ _, rfl⟩
            case s30 =>
              refine stepOk_free [125] [] (by kernel_rfl) rfl ?_
              intro ac W hT hI hO
              have h125 : ac.tmps.getD 125 undef = .bool true := hI 125 (by simp)
              show Brings Try.prog (fun vv w' => Turned (fun _ => False) W w' ∧ vv = .bool true) _
              simp only [execOp, Act.eval, h125]
              go_simp
              try exact ⟨Turned.refl _ _, rfl⟩
          case hQ =>
            intro vs w10 T10 hV
            have q4 : vs 4 = .bool true := hV 4 (by simp)
            simp only [List.foldl_cons, List.foldl_nil, List.setIfInBounds_toArray, List.set_cons_zero, List.set_cons_succ, q4]
            have HT10 := Lib.hid (HT9.out.turned0 T10)
            clear hV q4 T10
            go_wp2_with fail
            go_ret
            exact ⟨rfl, (HT2.out.trans HS2.out).trans (by obtain ⟨_, _, _, _, _, _, _, T⟩ := HT10.out; exact T)⟩
        · exact absurd hE hne
        · have HE1 := Lib.hid (fun (l : TL) (h : bt l = t1) => (show wholeE 8 (bt l) x.bare = _ from h ▸ hE))
          have HE2 := Lib.hid (fun (l : TL) (h : bt l = t1) => (show wholeE 8 (bt l) y.bare = _ from h ▸ (m1.trans hE)))
          have HE3 := Lib.hid (fun (l : TL) (h : bt l = t2) => (show wholeE 8 (bt l) x.bare = _ from h ▸ (m2.trans hE)))
          clear hE hne m1 m2
          go_enter Try.func24, Try.ntmps24
          go_wp2_with (first
            | (go_at_call 89; (have HUv := HUv; obtain ⟨O1, O2, A1, A2, g1, g2, gd, T⟩ := HT8.out; have hxn := ((HX.out.turned0 HS2.out).mono (q := fun k => k < W2.heap.size) (fun k hk _ => hk)).turned0 T; have hyn := ((HY.out.turned0 HS2.out).mono (q := fun k => k < W2.heap.size) (fun k hk _ => hk)).turned0 T; (with_reducible refine (wholeVal A2 hxn HSX.out (HE3.out _ HL2.out)).mono ?_); rintro e W9 ⟨z, rfl, hub, hui, T9⟩; have T9b := T9.alloc (.cells #[.int .i64 z.kind, .int .i64 z.n, .string z.name, .slice z.at_.1 z.args.length z.at_.2] 27); have HT9 := Lib.hid (HT8.out.turned0 T9b); have HBz := Lib.hid (heap_alloc_new W9 (.cells #[.int .i64 z.kind, .int .i64 z.n, .string z.name, .slice z.at_.1 z.args.length z.at_.2] 27)); have HUz := Lib.hid hub; have HIz := Lib.hid ((hui.mono (q := fun _ => True) (fun _ _ _ => trivial)).turned0 ((Turned.refl _ W9).alloc (.cells #[.int .i64 z.kind, .int .i64 z.n, .string z.name, .slice z.at_.1 z.args.length z.at_.2] 27))); have HVz := Lib.hid T9b; obtain ⟨_, _, _, _, _, _, _, TQ⟩ := HT9.out; obtain ⟨⟨c0, c1, c2, c3⟩, d0, d1, d2, d3⟩ := HKP.out _ (HS2.out.trans TQ); clear A1 A2 g1 g2 gd T TQ hxn hyn hub hui T9 T9b))
            | (go_at_call 89; (have HUu := HUu; obtain ⟨O1, O2, A1, A2, g1, g2, gd, T⟩ := HT7.out; have hxn := ((HX.out.turned0 HS2.out).mono (q := fun k => k < W2.heap.size) (fun k hk _ => hk)).turned0 T; have hyn := ((HY.out.turned0 HS2.out).mono (q := fun k => k < W2.heap.size) (fun k hk _ => hk)).turned0 T; (with_reducible refine (wholeVal A1 hyn HSY.out (HE2.out _ HL1.out)).mono ?_); rintro e W8 ⟨v, rfl, hub, hui, T8⟩; have T8b := T8.alloc (.cells #[.int .i64 v.kind, .int .i64 v.n, .string v.name, .slice v.at_.1 v.args.length v.at_.2] 27); have HT8 := Lib.hid (HT7.out.turned0 T8b); have HBv := Lib.hid (heap_alloc_new W8 (.cells #[.int .i64 v.kind, .int .i64 v.n, .string v.name, .slice v.at_.1 v.args.length v.at_.2] 27)); have HUv := Lib.hid hub; have HIv := Lib.hid ((hui.mono (q := fun _ => True) (fun _ _ _ => trivial)).turned0 ((Turned.refl _ W8).alloc (.cells #[.int .i64 v.kind, .int .i64 v.n, .string v.name, .slice v.at_.1 v.args.length v.at_.2] 27))); have HVv := Lib.hid T8b; obtain ⟨_, _, _, _, _, _, _, TQ⟩ := HT8.out; obtain ⟨⟨c0, c1, c2, c3⟩, d0, d1, d2, d3⟩ := HKP.out _ (HS2.out.trans TQ); clear A1 A2 g1 g2 gd T TQ hxn hyn hub hui T8 T8b))
            | (go_at_call 89; (obtain ⟨O1, O2, A1, A2, g1, g2, gd, T⟩ := HT6.out; have hxn := ((HX.out.turned0 HS2.out).mono (q := fun k => k < W2.heap.size) (fun k hk _ => hk)).turned0 T; have hyn := ((HY.out.turned0 HS2.out).mono (q := fun k => k < W2.heap.size) (fun k hk _ => hk)).turned0 T; (with_reducible refine (wholeVal A1 hxn HSX.out (HE1.out _ HL1.out)).mono ?_); rintro e W7 ⟨u, rfl, hub, hui, T7⟩; have T7b := T7.alloc (.cells #[.int .i64 u.kind, .int .i64 u.n, .string u.name, .slice u.at_.1 u.args.length u.at_.2] 27); have HT7 := Lib.hid (HT6.out.turned0 T7b); have HBu := Lib.hid (heap_alloc_new W7 (.cells #[.int .i64 u.kind, .int .i64 u.n, .string u.name, .slice u.at_.1 u.args.length u.at_.2] 27)); have HUu := Lib.hid hub; have HIu := Lib.hid ((hui.mono (q := fun _ => True) (fun _ _ _ => trivial)).turned0 ((Turned.refl _ W7).alloc (.cells #[.int .i64 u.kind, .int .i64 u.n, .string u.name, .slice u.at_.1 u.args.length u.at_.2] 27))); have HVu := Lib.hid T7b; obtain ⟨_, _, _, _, _, _, _, TQ⟩ := HT7.out; obtain ⟨⟨c0, c1, c2, c3⟩, d0, d1, d2, d3⟩ := HKP.out _ (HS2.out.trans TQ); clear A1 A2 g1 g2 gd T TQ hxn hyn hub hui T7 T7b))
            | (go_at_call 110; (have HL1 := HL1; obtain ⟨O1, O2, A1, A2, g1, g2, gd, T⟩ := HT5.out.swap; have hxn := ((HX.out.turned0 HS2.out).mono (q := fun k => k < W2.heap.size) (fun k hk _ => hk)).turned0 T; have hyn := ((HY.out.turned0 HS2.out).mono (q := fun k => k < W2.heap.size) (fun k hk _ => hk)).turned0 T; (with_reducible refine (bothVal A1 hyn HSY.out hxn HSX.out HR2.out).mono ?_); rintro e W6 ⟨rfl, l2, hl2, A⟩; have HT6 := Lib.hid (Two.step1 rfl A1 A2 g1 g2 gd T A).swap; have HL2 := Lib.hid hl2; obtain ⟨_, _, _, _, _, _, _, T6⟩ := HT6.out; obtain ⟨⟨c0, c1, c2, c3⟩, d0, d1, d2, d3⟩ := HKP.out _ (HS2.out.trans T6); clear A1 A2 g1 g2 gd T hxn hyn hl2 A T6))
            | (go_at_call 110; (obtain ⟨O1, O2, A1, A2, g1, g2, gd, T⟩ := HT4.out; have hxn := ((HX.out.turned0 HS2.out).mono (q := fun k => k < W2.heap.size) (fun k hk _ => hk)).turned0 T; have hyn := ((HY.out.turned0 HS2.out).mono (q := fun k => k < W2.heap.size) (fun k hk _ => hk)).turned0 T; (with_reducible refine (bothVal A1 hxn HSX.out hyn HSY.out HR1.out).mono ?_); rintro e W5 ⟨rfl, l1, hl1, A⟩; have HT5 := Lib.hid (Two.step1 rfl A1 A2 g1 g2 gd T A); have HL1 := Lib.hid hl1; obtain ⟨_, _, _, _, _, _, _, T5⟩ := HT5.out; obtain ⟨⟨c0, c1, c2, c3⟩, d0, d1, d2, d3⟩ := HKP.out _ (HS2.out.trans T5); clear A1 A2 g1 g2 gd T hxn hyn hl1 A T5))
            | (go_at_call 109; have H3 := H3; (with_reducible refine (both8 W3).mono ?_); rintro e W4 ⟨b2, wb2, rfl, h4⟩; have HT4 := Lib.hid (Two.start H3.out h4.binds rfl); obtain ⟨_, _, _, _, _, _, _, T4⟩ := HT4.out; obtain ⟨⟨c0, c1, c2, c3⟩, d0, d1, d2, d3⟩ := HKP.out _ (HS2.out.trans T4); clear T4 h4)
            | (go_at_call 109; (with_reducible refine (both8 W2).mono ?_); rintro e W3 ⟨bb, wb, rfl, h3⟩; have H3 := Lib.hid h3.binds; obtain ⟨_, _, _, T3⟩ := H3.out; obtain ⟨⟨c0, c1, c2, c3⟩, d0, d1, d2, d3⟩ := HKP.out _ (HS2.out.trans T3); clear T3 h3)
            | (go_at_call 113; have S1 := S1; (with_reducible refine (deepVal113 30 y _ 30 rfl (by omega) (HY.out.turned0 S1)).mono ?_); rintro e W2 ⟨rfl, T2⟩; rw [HDY.out]; have HS2 := Lib.hid (S1.trans T2); obtain ⟨⟨c0, c1, c2, c3⟩, d0, d1, d2, d3⟩ := HKP.out _ HS2.out; clear S1 T2)
            | (go_at_call 113; (with_reducible refine (deepVal113 30 x _ 30 rfl (by omega) (HX.out.turned0 S0)).mono ?_); rintro e W1 ⟨rfl, T1⟩; rw [HDX.out]; have S1 := S0.trans T1; obtain ⟨⟨c0, c1, c2, c3⟩, d0, d1, d2, d3⟩ := HKP.out _ S1; clear S0 T0 T1)
            | (go_at_call 108; refine (awake108 _).mono ?_; rintro e W0 ⟨rfl, T0⟩; rw [← HW2.out] at T0; have S0 := T0; obtain ⟨⟨c0, c1, c2, c3⟩, d0, d1, d2, d3⟩ := HKP.out _ S0))
          have HCu := Lib.hid (fun W (T : Turned (fun _ => False) (W9.alloc (.cells #[.int .i64 z.kind, .int .i64 z.n, .string z.name, .slice z.at_.1 z.args.length z.at_.2] 27)) W) => (T.block _ (Nat.lt_of_lt_of_le (Array.getElem?_eq_some_iff.1 HBu.out).1 (HVv.out.trans HVz.out).size) (fun f => f)).trans (((HVv.out.trans HVz.out).block _ (Array.getElem?_eq_some_iff.1 HBu.out).1 (fun f => f)).trans HBu.out))
          have HCv := Lib.hid (fun W (T : Turned (fun _ => False) (W9.alloc (.cells #[.int .i64 z.kind, .int .i64 z.n, .string z.name, .slice z.at_.1 z.args.length z.at_.2] 27)) W) => (T.block _ (Nat.lt_of_lt_of_le (Array.getElem?_eq_some_iff.1 HBv.out).1 HVz.out.size) (fun f => f)).trans ((HVz.out.block _ (Array.getElem?_eq_some_iff.1 HBv.out).1 (fun f => f)).trans HBv.out))
          have HCz := Lib.hid (fun W (T : Turned (fun _ => False) (W9.alloc (.cells #[.int .i64 z.kind, .int .i64 z.n, .string z.name, .slice z.at_.1 z.args.length z.at_.2] 27)) W) => (T.block _ (Array.getElem?_eq_some_iff.1 HBz.out).1 (fun f => f)).trans HBz.out)
          replace HIu := Lib.hid (fun W (T : Turned (fun _ => False) (W9.alloc (.cells #[.int .i64 z.kind, .int .i64 z.n, .string z.name, .slice z.at_.1 z.args.length z.at_.2] 27)) W) => (HIu.out.turned0 (HVv.out.trans HVz.out)).turned0 T)
          replace HIv := Lib.hid (fun W (T : Turned (fun _ => False) (W9.alloc (.cells #[.int .i64 z.kind, .int .i64 z.n, .string z.name, .slice z.at_.1 z.args.length z.at_.2] 27)) W) => (HIv.out.turned0 HVz.out).turned0 T)
          replace HIz := Lib.hid (fun W (T : Turned (fun _ => False) (W9.alloc (.cells #[.int .i64 z.kind, .int .i64 z.n, .string z.name, .slice z.at_.1 z.args.length z.at_.2] 27)) W) => HIz.out.turned0 T)
          clear c0 c1 c2 c3 d0 d1 d2 d3
          refine wp_region_ssa' (G := (fun dd vv W => (match dd with | 96 => vv = .int .i64 12 | 97 => vv = .bool true | 98 => vv = .bool true | 99 => vv = .int .i64 12 | 100 => vv = .bool true | 101 => vv = .bool true | 102 => vv = .bool true | 103 => vv = undef | 104 => vv = undef | 105 => vv = undef | 106 => vv = undef | 107 => vv = undef | 108 => vv = undef | 109 => vv = undef | 110 => vv = undef | 111 => vv = undef | 112 => vv = undef | 113 => vv = undef | 114 => vv = undef | 115 => vv = undef | 116 => vv = undef | 117 => vv = undef | 118 => vv = undef | 119 => vv = undef | 120 => vv = undef | 121 => vv = undef | 122 => vv = undef | 123 => vv = undef | 124 => vv = undef | 125 => vv = .bool true | 4 => vv = .bool true  | _ => True : Prop))) [96, 97, 98, 99, 100, 101, 102, 103, 104, 105, 106, 107, 108, 109, 110, 111, 112, 113, 114, 115, 116, 117, 118, 119, 120, 121, 122, 123, 124, 125, 4] (by kernel_rfl) rfl (by kernel_rfl) ?hG ?hs ?hQ
          case hG => exact fun d v _ _ _ h => h
          case hs =>
            refine ⟨?s0, ?s1, ?s2, ?s3, ?s4, ?s5, ?s6, ?s7, ?s8, ?s9, ?s10, ?s11, ?s12, ?s13, ?s14, ?s15, ?s16, ?s17, ?s18, ?s19, ?s20, ?s21, ?s22, ?s23, ?s24, ?s25, ?s26, ?s27, ?s28, ?s29, ?s30, trivial⟩
            case s0 =>
              refine stepOk_free [] [16] (by kernel_rfl) rfl ?_
              intro ac W hT hI hO
              have h16 : ac.tmps.getD 16 undef = .int .i64 12 := hO 16 (by simp)
              show Brings Try.prog (fun vv w' => Turned (fun _ => False) W w' ∧ vv = .int .i64 12) _
              simp only [execOp, Act.eval, h16]
              go_simp
              try exact ⟨Turned.refl _ _, rfl⟩
            case s1 =>
              refine stepOk_free [96] [] (by kernel_rfl) rfl ?_
              intro ac W hT hI hO
              have h96 : ac.tmps.getD 96 undef = .int .i64 12 := hI 96 (by simp)
              show Brings Try.prog (fun vv w' => Turned (fun _ => False) W w' ∧ vv = .bool true) _
              simp only [execOp, Act.eval, h96]
              go_simp
              try exact ⟨Turned.refl _ _, rfl⟩
            case s2 =>
              refine stepOk_free [97] [] (by kernel_rfl) rfl ?_
              intro ac W hT hI hO
              have h97 : ac.tmps.getD 97 undef = .bool true := hI 97 (by simp)
              show Brings Try.prog (fun vv w' => Turned (fun _ => False) W w' ∧ vv = .bool true) _
              simp only [execOp, Act.eval, h97]
              go_simp
              try exact ⟨Turned.refl _ _, rfl⟩
            case s3 =>
              refine stepOk_guard [98] [18] (by kernel_rfl) 2 true 98 rfl rfl (by simp) true true (fun _ _ h => h) (fun hc => ?_) (fun hc => by cases hc)
              intro ac W hT hI hO
              have h18 : ac.tmps.getD 18 undef = .int .i64 12 := hO 18 (by simp)
              show Brings Try.prog (fun vv w' => Turned (fun _ => False) W w' ∧ vv = .int .i64 12) _
              simp only [execOp, Act.eval, h18]
              go_simp
              try exact ⟨Turned.refl _ _, rfl⟩
            case s4 =>
              refine stepOk_guard [99, 98] [] (by kernel_rfl) 2 true 98 rfl rfl (by simp) true true (fun _ _ h => h) (fun hc => ?_) (fun hc => by cases hc)
              intro ac W hT hI hO
              have h99 : ac.tmps.getD 99 undef = .int .i64 12 := hI 99 (by simp)
              show Brings Try.prog (fun vv w' => Turned (fun _ => False) W w' ∧ vv = .bool true) _
              simp only [execOp, Act.eval, h99]
              go_simp
              try exact ⟨Turned.refl _ _, rfl⟩
            case s5 =>
              refine stepOk_free [98, 100] [] (by kernel_rfl) rfl ?_
              intro ac W hT hI hO
              have h98 : ac.tmps.getD 98 undef = .bool true := hI 98 (by simp)
              have h100 : ac.tmps.getD 100 undef = .bool true := hI 100 (by simp)
              show Brings Try.prog (fun vv w' => Turned (fun _ => False) W w' ∧ vv = .bool true) _
              simp only [execOp, Act.eval, h98, h100]
              go_simp
              try exact ⟨Turned.refl _ _, rfl⟩
            case s6 =>
              refine stepOk_free [101] [] (by kernel_rfl) rfl ?_
              intro ac W hT hI hO
              have h101 : ac.tmps.getD 101 undef = .bool true := hI 101 (by simp)
              show Brings Try.prog (fun vv w' => Turned (fun _ => False) W w' ∧ vv = .bool true) _
              simp only [execOp, Act.eval, h101]
              go_simp
              try exact ⟨Turned.refl _ _, rfl⟩
            case s7 => exact stepOk_guard [102] [16] (by kernel_rfl) 6 false 102 rfl rfl (by simp) true true (fun _ _ h => h) (fun hc => by cases hc) (fun _ _ => rfl)
            case s8 => exact stepOk_guard [103, 102] [] (by kernel_rfl) 6 false 102 rfl rfl (by simp) true true (fun _ _ h => h) (fun hc => by cases hc) (fun _ _ => rfl)
            case s9 => exact stepOk_guard [104, 102] [] (by kernel_rfl) 6 false 102 rfl rfl (by simp) true true (fun _ _ h => h) (fun hc => by cases hc) (fun _ _ => rfl)
            case s10 => exact stepOk_guard [105] [18] (by kernel_rfl) 9 true 105 rfl rfl (by simp) false false (fun _ _ h => h) (fun hc => by cases hc) (fun _ _ => rfl)
            case s11 => exact stepOk_guard [106, 105] [] (by kernel_rfl) 9 true 105 rfl rfl (by simp) false false (fun _ _ h => h) (fun hc => by cases hc) (fun _ _ => rfl)
            case s12 => exact stepOk_guard [105, 107, 102] [] (by kernel_rfl) 6 false 102 rfl rfl (by simp) true true (fun _ _ h => h) (fun hc => by cases hc) (fun _ _ => rfl)
            case s13 => exact stepOk_guard [108, 102] [] (by kernel_rfl) 6 false 102 rfl rfl (by simp) true true (fun _ _ h => h) (fun hc => by cases hc) (fun _ _ => rfl)
            case s14 => exact stepOk_guard [109] [20] (by kernel_rfl) 13 true 109 rfl rfl (by simp) false false (fun _ _ h => h) (fun hc => by cases hc) (fun _ _ => rfl)
            case s15 => exact stepOk_guard [110, 109] [] (by kernel_rfl) 13 true 109 rfl rfl (by simp) false false (fun _ _ h => h) (fun hc => by cases hc) (fun _ _ => rfl)
            case s16 => exact stepOk_guard [109, 111, 102] [] (by kernel_rfl) 6 false 102 rfl rfl (by simp) true true (fun _ _ h => h) (fun hc => by cases hc) (fun _ _ => rfl)
            case s17 => exact stepOk_guard [112, 102] [] (by kernel_rfl) 6 false 102 rfl rfl (by simp) true true (fun _ _ h => h) (fun hc => by cases hc) (fun _ _ => rfl)
            case s18 => exact stepOk_guard [113] [15] (by kernel_rfl) 17 true 113 rfl rfl (by simp) false false (fun _ _ h => h) (fun hc => by cases hc) (fun _ _ => rfl)
            case s19 => exact stepOk_guard [113] [17] (by kernel_rfl) 17 true 113 rfl rfl (by simp) false false (fun _ _ h => h) (fun hc => by cases hc) (fun _ _ => rfl)
            case s20 => exact stepOk_guard [114, 115, 113] [] (by kernel_rfl) 17 true 113 rfl rfl (by simp) false false (fun _ _ h => h) (fun hc => by cases hc) (fun _ _ => rfl)
            case s21 => exact stepOk_guard [113, 116, 102] [] (by kernel_rfl) 6 false 102 rfl rfl (by simp) true true (fun _ _ h => h) (fun hc => by cases hc) (fun _ _ => rfl)
            case s22 => exact stepOk_guard [117, 102] [] (by kernel_rfl) 6 false 102 rfl rfl (by simp) true true (fun _ _ h => h) (fun hc => by cases hc) (fun _ _ => rfl)
            case s23 => exact stepOk_guard [118] [15] (by kernel_rfl) 22 true 118 rfl rfl (by simp) false false (fun _ _ h => h) (fun hc => by cases hc) (fun _ _ => rfl)
            case s24 => exact stepOk_guard [119, 118] [] (by kernel_rfl) 22 true 118 rfl rfl (by simp) false false (fun _ _ h => h) (fun hc => by cases hc) (fun _ _ => rfl)
            case s25 => exact stepOk_guard [118] [19] (by kernel_rfl) 22 true 118 rfl rfl (by simp) false false (fun _ _ h => h) (fun hc => by cases hc) (fun _ _ => rfl)
            case s26 => exact stepOk_guard [121, 118] [] (by kernel_rfl) 22 true 118 rfl rfl (by simp) false false (fun _ _ h => h) (fun hc => by cases hc) (fun _ _ => rfl)
            case s27 => exact stepOk_guard [120, 122, 118] [] (by kernel_rfl) 22 true 118 rfl rfl (by simp) false false (fun _ _ h => h) (fun hc => by cases hc) (fun _ _ => rfl)
            case s28 => exact stepOk_guard [118, 123, 102] [] (by kernel_rfl) 6 false 102 rfl rfl (by simp) true true (fun _ _ h => h) (fun hc => by cases hc) (fun _ _ => rfl)
            case s29 =>
              refine stepOk_free [102, 124] [] (by kernel_rfl) rfl ?_
              intro ac W hT hI hO
              have h102 : ac.tmps.getD 102 undef = .bool true := hI 102 (by simp)
              have h124 : ac.tmps.getD 124 undef = undef := hI 124 (by simp)
              show Brings Try.prog (fun vv w' => Turned (fun _ => False) W w' ∧ vv = .bool true) _
              simp only [execOp, Act.eval, h102, h124]
              go_simp
              try exact ⟨Turned.refl _ _, rfl⟩
            case s30 =>
              refine stepOk_free [125] [] (by kernel_rfl) rfl ?_
              intro ac W hT hI hO
              have h125 : ac.tmps.getD 125 undef = .bool true := hI 125 (by simp)
              show Brings Try.prog (fun vv w' => Turned (fun _ => False) W w' ∧ vv = .bool true) _
              simp only [execOp, Act.eval, h125]
              go_simp
              try exact ⟨Turned.refl _ _, rfl⟩
          case hQ =>
            intro vs w10 T10 hV
            have q4 : vs 4 = .bool true := hV 4 (by simp)
            simp only [List.foldl_cons, List.foldl_nil, List.setIfInBounds_toArray, List.set_cons_zero, List.set_cons_succ, q4]
            have HT10 := Lib.hid (HT9.out.turned0 T10)
            clear hV q4 T10
            go_wp2_with fail
            go_ret
            exact ⟨rfl, (HT2.out.trans HS2.out).trans (by obtain ⟨_, _, _, _, _, _, _, T⟩ := HT10.out; exact T)⟩
    · subst h1
      have de : (e2 == 0) = false := by simp [h2]
      have de' : (e2 != 0) = true := by simp [h2]
      obtain rfl : q = false := bothR_err HR2.out h2
      clear h2
      cases p with
      | false =>
        go_enter Try.func24, Try.ntmps24
        go_wp2_with (first
          | (go_at_call 110; (have HL1 := HL1; obtain ⟨O1, O2, A1, A2, g1, g2, gd, T⟩ := HT5.out.swap; have hxn := ((HX.out.turned0 HS2.out).mono (q := fun k => k < W2.heap.size) (fun k hk _ => hk)).turned0 T; have hyn := ((HY.out.turned0 HS2.out).mono (q := fun k => k < W2.heap.size) (fun k hk _ => hk)).turned0 T; (with_reducible refine (bothVal A1 hyn HSY.out hxn HSX.out HR2.out).mono ?_); rintro e W6 ⟨rfl, l2, hl2, A⟩; have HT6 := Lib.hid (Two.step1 rfl A1 A2 g1 g2 gd T A).swap; have HL2 := Lib.hid hl2; obtain ⟨_, _, _, _, _, _, _, T6⟩ := HT6.out; obtain ⟨⟨c0, c1, c2, c3⟩, d0, d1, d2, d3⟩ := HKP.out _ (HS2.out.trans T6); clear A1 A2 g1 g2 gd T hxn hyn hl2 A T6))
          | (go_at_call 110; (obtain ⟨O1, O2, A1, A2, g1, g2, gd, T⟩ := HT4.out; have hxn := ((HX.out.turned0 HS2.out).mono (q := fun k => k < W2.heap.size) (fun k hk _ => hk)).turned0 T; have hyn := ((HY.out.turned0 HS2.out).mono (q := fun k => k < W2.heap.size) (fun k hk _ => hk)).turned0 T; (with_reducible refine (bothVal A1 hxn HSX.out hyn HSY.out HR1.out).mono ?_); rintro e W5 ⟨rfl, l1, hl1, A⟩; have HT5 := Lib.hid (Two.step1 rfl A1 A2 g1 g2 gd T A); have HL1 := Lib.hid hl1; obtain ⟨_, _, _, _, _, _, _, T5⟩ := HT5.out; obtain ⟨⟨c0, c1, c2, c3⟩, d0, d1, d2, d3⟩ := HKP.out _ (HS2.out.trans T5); clear A1 A2 g1 g2 gd T hxn hyn hl1 A T5))
          | (go_at_call 109; have H3 := H3; (with_reducible refine (both8 W3).mono ?_); rintro e W4 ⟨b2, wb2, rfl, h4⟩; have HT4 := Lib.hid (Two.start H3.out h4.binds rfl); obtain ⟨_, _, _, _, _, _, _, T4⟩ := HT4.out; obtain ⟨⟨c0, c1, c2, c3⟩, d0, d1, d2, d3⟩ := HKP.out _ (HS2.out.trans T4); clear T4 h4)
          | (go_at_call 109; (with_reducible refine (both8 W2).mono ?_); rintro e W3 ⟨bb, wb, rfl, h3⟩; have H3 := Lib.hid h3.binds; obtain ⟨_, _, _, T3⟩ := H3.out; obtain ⟨⟨c0, c1, c2, c3⟩, d0, d1, d2, d3⟩ := HKP.out _ (HS2.out.trans T3); clear T3 h3)
          | (go_at_call 113; have S1 := S1; (with_reducible refine (deepVal113 30 y _ 30 rfl (by omega) (HY.out.turned0 S1)).mono ?_); rintro e W2 ⟨rfl, T2⟩; rw [HDY.out]; have HS2 := Lib.hid (S1.trans T2); obtain ⟨⟨c0, c1, c2, c3⟩, d0, d1, d2, d3⟩ := HKP.out _ HS2.out; clear S1 T2)
          | (go_at_call 113; (with_reducible refine (deepVal113 30 x _ 30 rfl (by omega) (HX.out.turned0 S0)).mono ?_); rintro e W1 ⟨rfl, T1⟩; rw [HDX.out]; have S1 := S0.trans T1; obtain ⟨⟨c0, c1, c2, c3⟩, d0, d1, d2, d3⟩ := HKP.out _ S1; clear S0 T0 T1)
          | (go_at_call 108; refine (awake108 _).mono ?_; rintro e W0 ⟨rfl, T0⟩; rw [← HW2.out] at T0; have S0 := T0; obtain ⟨⟨c0, c1, c2, c3⟩, d0, d1, d2, d3⟩ := HKP.out _ S0))
        go_ret
        exact ⟨rfl, (HT2.out.trans HS2.out).trans (by obtain ⟨_, _, _, _, _, _, _, T⟩ := HT6.out; exact T)⟩
      | true =>
        go_enter Try.func24, Try.ntmps24
        go_wp2_with (first
          | (go_at_call 110; (have HL1 := HL1; obtain ⟨O1, O2, A1, A2, g1, g2, gd, T⟩ := HT5.out.swap; have hxn := ((HX.out.turned0 HS2.out).mono (q := fun k => k < W2.heap.size) (fun k hk _ => hk)).turned0 T; have hyn := ((HY.out.turned0 HS2.out).mono (q := fun k => k < W2.heap.size) (fun k hk _ => hk)).turned0 T; (with_reducible refine (bothVal A1 hyn HSY.out hxn HSX.out HR2.out).mono ?_); rintro e W6 ⟨rfl, l2, hl2, A⟩; have HT6 := Lib.hid (Two.step1 rfl A1 A2 g1 g2 gd T A).swap; have HL2 := Lib.hid hl2; obtain ⟨_, _, _, _, _, _, _, T6⟩ := HT6.out; obtain ⟨⟨c0, c1, c2, c3⟩, d0, d1, d2, d3⟩ := HKP.out _ (HS2.out.trans T6); clear A1 A2 g1 g2 gd T hxn hyn hl2 A T6))
          | (go_at_call 110; (obtain ⟨O1, O2, A1, A2, g1, g2, gd, T⟩ := HT4.out; have hxn := ((HX.out.turned0 HS2.out).mono (q := fun k => k < W2.heap.size) (fun k hk _ => hk)).turned0 T; have hyn := ((HY.out.turned0 HS2.out).mono (q := fun k => k < W2.heap.size) (fun k hk _ => hk)).turned0 T; (with_reducible refine (bothVal A1 hxn HSX.out hyn HSY.out HR1.out).mono ?_); rintro e W5 ⟨rfl, l1, hl1, A⟩; have HT5 := Lib.hid (Two.step1 rfl A1 A2 g1 g2 gd T A); have HL1 := Lib.hid hl1; obtain ⟨_, _, _, _, _, _, _, T5⟩ := HT5.out; obtain ⟨⟨c0, c1, c2, c3⟩, d0, d1, d2, d3⟩ := HKP.out _ (HS2.out.trans T5); clear A1 A2 g1 g2 gd T hxn hyn hl1 A T5))
          | (go_at_call 109; have H3 := H3; (with_reducible refine (both8 W3).mono ?_); rintro e W4 ⟨b2, wb2, rfl, h4⟩; have HT4 := Lib.hid (Two.start H3.out h4.binds rfl); obtain ⟨_, _, _, _, _, _, _, T4⟩ := HT4.out; obtain ⟨⟨c0, c1, c2, c3⟩, d0, d1, d2, d3⟩ := HKP.out _ (HS2.out.trans T4); clear T4 h4)
          | (go_at_call 109; (with_reducible refine (both8 W2).mono ?_); rintro e W3 ⟨bb, wb, rfl, h3⟩; have H3 := Lib.hid h3.binds; obtain ⟨_, _, _, T3⟩ := H3.out; obtain ⟨⟨c0, c1, c2, c3⟩, d0, d1, d2, d3⟩ := HKP.out _ (HS2.out.trans T3); clear T3 h3)
          | (go_at_call 113; have S1 := S1; (with_reducible refine (deepVal113 30 y _ 30 rfl (by omega) (HY.out.turned0 S1)).mono ?_); rintro e W2 ⟨rfl, T2⟩; rw [HDY.out]; have HS2 := Lib.hid (S1.trans T2); obtain ⟨⟨c0, c1, c2, c3⟩, d0, d1, d2, d3⟩ := HKP.out _ HS2.out; clear S1 T2)
          | (go_at_call 113; (with_reducible refine (deepVal113 30 x _ 30 rfl (by omega) (HX.out.turned0 S0)).mono ?_); rintro e W1 ⟨rfl, T1⟩; rw [HDX.out]; have S1 := S0.trans T1; obtain ⟨⟨c0, c1, c2, c3⟩, d0, d1, d2, d3⟩ := HKP.out _ S1; clear S0 T0 T1)
          | (go_at_call 108; refine (awake108 _).mono ?_; rintro e W0 ⟨rfl, T0⟩; rw [← HW2.out] at T0; have S0 := T0; obtain ⟨⟨c0, c1, c2, c3⟩, d0, d1, d2, d3⟩ := HKP.out _ S0))
        go_ret
        exact ⟨rfl, (HT2.out.trans HS2.out).trans (by obtain ⟨_, _, _, _, _, _, _, T⟩ := HT6.out; exact T)⟩
  · have de : (e1 == 0) = false := by simp [h1]
    have de' : (e1 != 0) = true := by simp [h1]
    obtain rfl : p = false := bothR_err HR1.out h1
    clear h1
    go_enter Try.func24, Try.ntmps24
    go_wp2_with (first
      | (go_at_call 110; (have HL1 := HL1; obtain ⟨O1, O2, A1, A2, g1, g2, gd, T⟩ := HT5.out.swap; have hxn := ((HX.out.turned0 HS2.out).mono (q := fun k => k < W2.heap.size) (fun k hk _ => hk)).turned0 T; have hyn := ((HY.out.turned0 HS2.out).mono (q := fun k => k < W2.heap.size) (fun k hk _ => hk)).turned0 T; (with_reducible refine (bothVal A1 hyn HSY.out hxn HSX.out HR2.out).mono ?_); rintro e W6 ⟨rfl, l2, hl2, A⟩; have HT6 := Lib.hid (Two.step1 rfl A1 A2 g1 g2 gd T A).swap; have HL2 := Lib.hid hl2; obtain ⟨_, _, _, _, _, _, _, T6⟩ := HT6.out; obtain ⟨⟨c0, c1, c2, c3⟩, d0, d1, d2, d3⟩ := HKP.out _ (HS2.out.trans T6); clear A1 A2 g1 g2 gd T hxn hyn hl2 A T6))
      | (go_at_call 110; (obtain ⟨O1, O2, A1, A2, g1, g2, gd, T⟩ := HT4.out; have hxn := ((HX.out.turned0 HS2.out).mono (q := fun k => k < W2.heap.size) (fun k hk _ => hk)).turned0 T; have hyn := ((HY.out.turned0 HS2.out).mono (q := fun k => k < W2.heap.size) (fun k hk _ => hk)).turned0 T; (with_reducible refine (bothVal A1 hxn HSX.out hyn HSY.out HR1.out).mono ?_); rintro e W5 ⟨rfl, l1, hl1, A⟩; have HT5 := Lib.hid (Two.step1 rfl A1 A2 g1 g2 gd T A); have HL1 := Lib.hid hl1; obtain ⟨_, _, _, _, _, _, _, T5⟩ := HT5.out; obtain ⟨⟨c0, c1, c2, c3⟩, d0, d1, d2, d3⟩ := HKP.out _ (HS2.out.trans T5); clear A1 A2 g1 g2 gd T hxn hyn hl1 A T5))
      | (go_at_call 109; have H3 := H3; (with_reducible refine (both8 W3).mono ?_); rintro e W4 ⟨b2, wb2, rfl, h4⟩; have HT4 := Lib.hid (Two.start H3.out h4.binds rfl); obtain ⟨_, _, _, _, _, _, _, T4⟩ := HT4.out; obtain ⟨⟨c0, c1, c2, c3⟩, d0, d1, d2, d3⟩ := HKP.out _ (HS2.out.trans T4); clear T4 h4)
      | (go_at_call 109; (with_reducible refine (both8 W2).mono ?_); rintro e W3 ⟨bb, wb, rfl, h3⟩; have H3 := Lib.hid h3.binds; obtain ⟨_, _, _, T3⟩ := H3.out; obtain ⟨⟨c0, c1, c2, c3⟩, d0, d1, d2, d3⟩ := HKP.out _ (HS2.out.trans T3); clear T3 h3)
      | (go_at_call 113; have S1 := S1; (with_reducible refine (deepVal113 30 y _ 30 rfl (by omega) (HY.out.turned0 S1)).mono ?_); rintro e W2 ⟨rfl, T2⟩; rw [HDY.out]; have HS2 := Lib.hid (S1.trans T2); obtain ⟨⟨c0, c1, c2, c3⟩, d0, d1, d2, d3⟩ := HKP.out _ HS2.out; clear S1 T2)
      | (go_at_call 113; (with_reducible refine (deepVal113 30 x _ 30 rfl (by omega) (HX.out.turned0 S0)).mono ?_); rintro e W1 ⟨rfl, T1⟩; rw [HDX.out]; have S1 := S0.trans T1; obtain ⟨⟨c0, c1, c2, c3⟩, d0, d1, d2, d3⟩ := HKP.out _ S1; clear S0 T0 T1)
      | (go_at_call 108; refine (awake108 _).mono ?_; rintro e W0 ⟨rfl, T0⟩; rw [← HW2.out] at T0; have S0 := T0; obtain ⟨⟨c0, c1, c2, c3⟩, d0, d1, d2, d3⟩ := HKP.out _ S0))
    go_ret
    exact ⟨rfl, (HT2.out.trans HS2.out).trans (by obtain ⟨_, _, _, _, _, _, _, T⟩ := HT6.out; exact T)⟩
end Go.Proofs.Ytoihjobdfjajfaa
namespace Go.Proofs.Ytoihjobdfjajfaa
open Go.Joins Go.Deep Go.ChangeShapes Go.WideShapes Go.ChangeAt Go.RowKit
set_option linter.unusedVariables false
set_option linter.unusedSimpArgs false
theorem cellsOf27 : Try.prog.cellsOf 27 = 4 := by kernel_rfl
theorem cellsOf22 : Try.prog.cellsOf 22 = 1 := by kernel_rfl
theorem cellsOf3 : Try.prog.cellsOf 3 = 1 := by kernel_rfl
theorem cellsOf2 : Try.prog.cellsOf 2 = 1 := by kernel_rfl
theorem cellsOf9 : Try.prog.cellsOf 9 = 1 := by kernel_rfl
theorem I64_of {n : Int} (h : (Lit.int .i64 n).wf = true) : I64 n := by
  unfold I64
  simp [Lit.wf] at h
  have e1 : IntKind.i64.min = -9223372036854775808 := by decide
  have e2 : IntKind.i64.max = 9223372036854775807 := by decide
  omega
section
variable {H : Type} {enc : TypeId × Value → H} {W : World} {base : Nat} {sp : Nat → Bool} {held : Bool}
theorem list4 {α : Type} {l : List α} (h : l.length = 4) : ∃ a b c d, l = [a, b, c, d] := by
  match l, h with
  | [a, b, c, d], _ => exact ⟨a, b, c, d, rfl⟩
set_option maxRecDepth 100000 in
theorem terms_of (fuel : Nat) : (∀ cs (x : DataW H × List MemPlace), DataW.trod enc Try.prog W base sp held fuel 27 cs = some x → ∃ t : LT, cs = t.cells ∧ t.In (fun _ => True) W) ∧
    (∀ cs (x : DataW H × List MemPlace), DataW.trod enc Try.prog W base sp held fuel 22 cs = some x → ∃ a cap, ∃ l : List LT, cs = [.slice a l.length cap] ∧ LT.Sl (fun _ => True) W a cap l) := by
  induction fuel with
  | zero => exact ⟨fun cs x h => by simp [DataW.trod] at h, fun cs x h => by simp [DataW.trod] at h⟩
  | succ fuel ih =>
    refine ⟨fun cs x h => ?_, fun cs x h => ?_⟩
    · obtain ⟨xs, n, hn, hx, hcs, hlen, hf⟩ := DataW.trod_struct Try.underlying27 h
      have hn : fuel = n := by omega
      subst hn
      rw [cellsOf27] at hcs
      obtain ⟨u0, u1, u2, u3, rfl⟩ := list4 hcs
      obtain ⟨y0, y1, y2, y3, rfl⟩ := list4 hlen
      · · have f0 : DataW.trod enc Try.prog W base sp held fuel 3 (([u0, u1, u2, u3].drop 0).take (Try.prog.cellsOf 3)) = some y0 := hf 0 _ rfl
          have f1 : DataW.trod enc Try.prog W base sp held fuel 2 (([u0, u1, u2, u3].drop 1).take (Try.prog.cellsOf 2)) = some y1 := hf 1 _ rfl
          have f2 : DataW.trod enc Try.prog W base sp held fuel 9 (([u0, u1, u2, u3].drop 2).take (Try.prog.cellsOf 9)) = some y2 := hf 2 _ rfl
          have f3 : DataW.trod enc Try.prog W base sp held fuel 22 (([u0, u1, u2, u3].drop 3).take (Try.prog.cellsOf 22)) = some y3 := hf 3 _ rfl
          simp only [cellsOf3, cellsOf2, cellsOf9, cellsOf22] at f0 f1 f2 f3
          simp at f0 f1 f2 f3
          obtain ⟨k, e0, _, wk⟩ := DataW.trod_int Try.underlying3 f0
          obtain ⟨m, e1, _, wm⟩ := DataW.trod_int Try.underlying2 f1
          obtain ⟨s, e2, _, ws⟩ := DataW.trod_string Try.underlying9 f2
          obtain ⟨a, cap, l, e3, hl⟩ := ih.2 _ _ f3
          simp at e0 e1 e2 e3
          subst e0 e1 e2 e3
          exact ⟨.mk k m s (a, cap) l, rfl, hl.in_ (I64_of wk) (I64_of wm) ws⟩
    · rcases DataW.trod_slice Try.underlying22 h with ⟨hcs, _⟩ | ⟨ad, len, cap, elems, rest, n, hn, hcs, _, _, hl, hm, hlen, hel, _⟩
      · exact ⟨none, 0, [], hcs, ⟨fun _ => ⟨rfl, rfl⟩, fun h => by simp at h, trivial, Nat.le_refl _, by unfold maxLen; omega⟩⟩
      · have hn : fuel = n := by omega
        subst hn
        rw [cellsOf27] at hel
        have hp : ∀ i, ∃ t : LT, i < len → t.In (fun _ => True) W ∧ ∀ j, j < 4 → W.cell? (ad.add (i * 4 + j)) = t.cells[j]? := by
          intro i
          by_cases hi : i < len
          · have he := hel i hi
            rw [List.getElem?_eq_getElem (by omega)] at he
            obtain ⟨cs', hc, ht⟩ := Option.bind_eq_some_iff.1 he
            obtain ⟨t, rfl, hin⟩ := ih.1 _ _ ht
            obtain ⟨_, _, hat⟩ := World.cells?_some hc
            refine ⟨t, fun _ => ⟨hin, fun j hj => ?_⟩⟩
            rw [← hat j hj]
            congr 1
            exact (add_add ..).symm
          · exact ⟨.mk 0 0 ByteArray.empty (none, 0) [], fun h => absurd h hi⟩
        obtain ⟨f, hff⟩ := Classical.axiomOfChoice hp
        refine ⟨some ad, cap, (List.range len).map f, by simpa using hcs, ⟨(fun e => by cases e), fun hpos => ?_, (LT.ins_iff _).2 fun x hx => ?_, by simpa using hl, hm⟩⟩
        · simp at hpos
          obtain ⟨b, o, spot⟩ := ad
          have hc := (hff 0 (by omega)).2 0 (by omega)
          have hspot : spot = none := by
            rw [LT.cells_eq] at hc
            simpa [Addr.add] using World.cell?_spot hc
          subst hspot
          refine ⟨b, o, rfl, trivial, fun j u hu => ?_⟩
          have hlt := (List.getElem?_eq_some_iff.1 hu).1
          rw [LT.flat_length, List.length_map, List.length_range] at hlt
          have hi : j / 4 < len := by omega
          have hx : ((List.range len).map f)[j / 4]? = some (f (j / 4)) := by rw [List.getElem?_map, List.getElem?_range hi]; rfl
          have h4 := LT.flat_at hx (j % 4) (by omega)
          rw [show j / 4 * 4 + j % 4 = j by omega, hu] at h4
          have hc := (hff (j / 4) hi).2 (j % 4) (by omega)
          rw [show j / 4 * 4 + j % 4 = j by omega, Addr.add_lit] at hc
          rw [hc, h4]
        · obtain ⟨i, hi, rfl⟩ := List.mem_map.1 hx
          exact (hff i (by simpa using hi)).1
set_option maxRecDepth 100000 in
theorem tmT_of {fuel : Nat} {r : Reach} {b0 : Nat} {v : Value} {x : DataW H × List MemPlace} (hv : Value.okWide Try.prog W r b0 27 v) (hf : DataW.trod enc Try.prog W base sp held fuel 27 v.cells.toList = some x) : ∃ t : LT, v = t.val ∧ t.In (fun _ => True) W := by
  obtain ⟨cs, rfl, hsz⟩ := okWide_struct Try.underlying27 hv
  obtain ⟨t, hcs, hin⟩ := (terms_of fuel).1 _ _ hf
  refine ⟨t, ?_, hin⟩
  cases t with | mk k n s e bs =>
  simp only [Value.cells] at hcs
  show Value.agg cs = Value.agg _
  congr 1
  exact Array.toList_inj.1 hcs
end
end Go.Proofs.Ytoihjobdfjajfaa
