/- Merged texts: IX3, Opens. -/
import Derived.Test.YtoihjobdfjajfaaIx6
import Derived.ProofKit
import Derived.Deep.Strs
import Derived.Lib.SmallJoins
/- IndexSafe: the walk. -/
namespace Go.Proofs.Ytoihjobdfjajfaa
open Go.RowKit Go.Maps
set_option linter.unusedVariables false
set_option linter.unusedSimpArgs false
theorem keyOf1_bare {α : Type} (t : Tm α) : keyOf1 t.bare = keyOf1 t := by
  unfold keyOf1
  rw [Tm.bare_kind, Tm.bare_n, Tm.bare_name, Tm.bare_arity]
theorem keyOf_bare {α : Type} (t : Tm α) : keyOf t.bare = keyOf t := by
  cases t with | mk k n s e aa =>
  cases aa with
  | nil => rfl
  | cons x r =>
    cases g : goodB (Tm.mk k n s e (x :: r)) with
    | false => rw [keyOf_bad g, keyOf_bad (by rw [goodB_bare]; exact g)]
    | true => rw [keyOf_cons (x := x) (r := r) rfl g, keyOf_cons (x := x.bare) (r := Tm.bares r) rfl (by rw [goodB_bare]; exact g), keyOf1_bare]
theorem deepVal41 (k : Nat) (t : LT) (W : World) (n : Int) (hn : n = (k : Int)) (hk : k ≤ 1000) {p : Nat → Prop} (h : t.In p W) : Calls Try.prog 41 #[.agg #[.int .i64 t.kind, .int .i64 t.n, .string t.name, .slice t.at_.1 t.args.length t.at_.2], .int .i64 n] W fun e w' => e = .returned (.bool (deepB k t)) ∧ Turned (fun _ => False) W w' := by
  subst hn
  have := deep41 p k t W hk h
  rw [LT.val_eq] at this
  exact this
theorem keyVal {p : Nat → Prop} {t : LT} {w : World} (ht : t.In p w) (hs : slim t) : Calls Try.prog 42 #[.agg #[.int .i64 t.kind, .int .i64 t.n, .string t.name, .slice t.at_.1 t.args.length t.at_.2]] w fun e w' => e = .returned (keyOf t).val ∧ Turned (fun _ => False) w w' := by
  have := of42 ht hs
  rw [LT.val_eq] at this
  exact this
theorem ownVal {p : Nat → Prop} {t : LT} {w : World} (ht : t.In p w) (hs : slim t) : Calls Try.prog 116 #[.agg #[.int .i64 t.kind, .int .i64 t.n, .string t.name, .slice t.at_.1 t.args.length t.at_.2]] w fun e w' => ∃ u : LT, e = .returned (.agg #[.int .i64 u.kind, .int .i64 u.n, .string u.name, .slice u.at_.1 u.args.length u.at_.2]) ∧ u.bare = t.bare ∧ u.In (fun _ => True) w' ∧ Turned (fun _ => False) w w' := by
  have := own116 t.depth t w (Nat.le_refl _) ht hs
  rw [LT.val_eq] at this
  refine this.mono ?_
  rintro e w' ⟨u, rfl, h1, h2, h3⟩
  exact ⟨u, by rw [LT.val_eq], h1, h2.mono (fun _ _ _ => trivial), h3⟩
theorem docVal {p : Nat → Prop} {t u : LT} {w : World} (hu : u.In p w) (hs : slim u) (hb : u.bare = t.bare) : Calls Try.prog 115 #[.agg #[.int .i64 u.kind, .int .i64 u.n, .string u.name, .slice u.at_.1 u.args.length u.at_.2]] w fun e w' => e = .returned (keyOf t).val ∧ Turned (fun _ => False) w w' := by
  have := keyOf115 hu hs
  rw [LT.val_eq, ← keyOf_bare u, hb, keyOf_bare] at this
  exact this
theorem slim_bare {t u : LT} (hb : u.bare = t.bare) (hs : slim t) : slim u := slim_eq' hb.symm hs
theorem couldVal {x y : LT} {w : World} (hx : x.In (fun _ => True) w) (sx : slim x) (hy : y.In (fun _ => True) w) (sy : slim y) {b : Bool} (hb : couldB x.bare y.bare = b) :
    Calls Try.prog 112 #[.agg #[.int .i64 x.kind, .int .i64 x.n, .string x.name, .slice x.at_.1 x.args.length x.at_.2], .agg #[.int .i64 y.kind, .int .i64 y.n, .string y.name, .slice y.at_.1 y.args.length y.at_.2]] w fun e w' => e = .returned (.bool b) ∧ Turned (fun _ => False) w w' := by
  have := could112 hx sx hy sy
  rw [LT.val_eq, LT.val_eq, hb] at this
  exact this
set_option maxRecDepth 100000 in
set_option maxHeartbeats 12800000 in
theorem indexSafe {w : World} {x y : LT} (hx : x.In (fun _ => True) w) (hy : y.In (fun _ => True) w) :
    Calls Try.prog 25 #[x.val, y.val] w fun e w' => e = .returned (.bool true) ∧ Turned (fun _ => False) w w' := by
  have h2 := twoBox w (.cells #[.int .i64 x.kind, .int .i64 x.n, .string x.name, .slice x.at_.1 x.args.length x.at_.2] 27) (.cells #[.int .i64 y.kind, .int .i64 y.n, .string y.name, .slice y.at_.1 y.args.length y.at_.2] 27)
  obtain ⟨w2, hw2⟩ : ∃ z, z = (w.alloc (.cells #[.int .i64 x.kind, .int .i64 x.n, .string x.name, .slice x.at_.1 x.args.length x.at_.2] 27)).alloc (.cells #[.int .i64 y.kind, .int .i64 y.n, .string y.name, .slice y.at_.1 y.args.length y.at_.2] 27) := ⟨_, rfl⟩
  rw [← hw2] at h2
  have hkp : ∀ W, Turned (fun _ => False) w2 W → (W.cell? ⟨w.heap.size, 0, none⟩ = some (.int .i64 x.kind) ∧ W.cell? ⟨w.heap.size, 1, none⟩ = some (.int .i64 x.n) ∧ W.cell? ⟨w.heap.size, 2, none⟩ = some (.string x.name) ∧ W.cell? ⟨w.heap.size, 3, none⟩ = some (.slice x.at_.1 x.args.length x.at_.2)) ∧ (W.cell? ⟨w.heap.size + 1, 0, none⟩ = some (.int .i64 y.kind) ∧ W.cell? ⟨w.heap.size + 1, 1, none⟩ = some (.int .i64 y.n) ∧ W.cell? ⟨w.heap.size + 1, 2, none⟩ = some (.string y.name) ∧ W.cell? ⟨w.heap.size + 1, 3, none⟩ = some (.slice y.at_.1 y.args.length y.at_.2)) := fun W h =>
    ⟨four_of ((h.block _ (by have := h2.2.1; omega) (fun f => f)).trans h2.2.2.1), four_of ((h.block _ (by have := h2.2.1; omega) (fun f => f)).trans h2.2.2.2)⟩
  have HKP := Lib.hid hkp
  have HW2 := Lib.hid hw2
  have HT2 := Lib.hid h2.1
  have HX := Lib.hid (hx.turned0 h2.1)
  have HY := Lib.hid (hy.turned0 h2.1)
  rw [LT.val_eq, LT.val_eq y]
  clear hkp hw2 h2 hx hy
  cases dx : deepB 30 x with
  | true =>
    have HDX := Lib.hid dx
    clear dx
    go_enter Try.func25, Try.ntmps25
    go_wp2_with (first
      | (go_at_call 40; refine (awake40 _).mono ?_; rintro e W0 ⟨rfl, T0⟩; rw [← HW2.out] at T0; have S0 := T0; obtain ⟨⟨c0, c1, c2, c3⟩, d0, d1, d2, d3⟩ := HKP.out _ S0)
      | (go_at_call 41; (with_reducible refine (deepVal41 30 x _ 30 rfl (by omega) (HX.out.turned0 S0)).mono ?_); rintro e W1 ⟨rfl, T1⟩; rw [HDX.out]))
    go_ret
    exact ⟨rfl, (HT2.out.trans S0).trans T1⟩
  | false =>
  have HDX := Lib.hid dx
  have HSX := Lib.hid (deep_slim 30 x dx)
  clear dx
  cases dy : deepB 30 y with
  | true =>
    have HDY := Lib.hid dy
    clear dy
    go_enter Try.func25, Try.ntmps25
    go_wp2_with (first
      | (go_at_call 40; refine (awake40 _).mono ?_; rintro e W0 ⟨rfl, T0⟩; rw [← HW2.out] at T0; have S0 := T0; obtain ⟨⟨c0, c1, c2, c3⟩, d0, d1, d2, d3⟩ := HKP.out _ S0)
      | (go_at_call 41; (with_reducible refine (deepVal41 30 x _ 30 rfl (by omega) (HX.out.turned0 S0)).mono ?_); rintro e W1 ⟨rfl, T1⟩; rw [HDX.out]; obtain ⟨⟨c0, c1, c2, c3⟩, d0, d1, d2, d3⟩ := HKP.out _ (S0.trans T1))
      | (go_at_call 41; (with_reducible refine (deepVal41 30 y _ 30 rfl (by omega) (HY.out.turned0 (S0.trans T1))).mono ?_); rintro e W2 ⟨rfl, T2⟩; rw [HDY.out]))
    go_ret
    exact ⟨rfl, ((HT2.out.trans S0).trans T1).trans T2⟩
  | false =>
  have HDY := Lib.hid dy
  have HSY := Lib.hid (deep_slim 30 y dy)
  clear dy
  obtain ⟨K, hK⟩ : ∃ z, z = (keyOf x).val := ⟨_, rfl⟩
  obtain ⟨KY, hKY⟩ : ∃ z, z = (keyOf y).val := ⟨_, rfl⟩
  have HKX := Lib.hid (fun W (h : x.In (fun _ => True) W) => hK ▸ keyVal h HSX.out)
  have HKYV := Lib.hid (fun W (h : y.In (fun _ => True) W) => hKY ▸ keyVal h HSY.out)
  have HK57 := Lib.hid (fun W => hK ▸ key57 (keyOf x) W)
  have HDOC := Lib.hid (fun (u : LT) W (h : u.In (fun _ => True) W) (hb : u.bare = x.bare) => hK ▸ docVal h (slim_bare hb HSX.out) hb)
  have HNE := Lib.hid (fun W => key_neq63 (keyOf x) W)
  have HKV : Hid (K = .agg #[.int .i64 (keyOf x).kind, .int .i64 (keyOf x).n, .string (keyOf x).name, .int .i64 (keyOf x).arity]) := hK
  have HMAY := Lib.hid (fun W => hKY ▸ hK ▸ may43 (keyOf x) (keyOf y) W)
  have HCM := Lib.hid (fun (h : couldB x.bare y.bare = true) => (show mayB (keyOf x) (keyOf y) = true from keyOf_bare x ▸ keyOf_bare y ▸ could_may h))
  clear hK hKY
  cases hcb : couldB x.bare y.bare with
  | true =>
    obtain ⟨mb, hmb⟩ : ∃ z, z = mayB (keyOf x) (keyOf y) := ⟨_, rfl⟩
    rw [← hmb] at HMAY HCM
    obtain rfl : mb = true := HCM.out hcb
    have HCB := Lib.hid hcb
    clear hcb hmb
    go_enter Try.func25, Try.ntmps25
    go_wp2_with (first
      | (go_at_call 40; refine (awake40 _).mono ?_; rintro e W0 ⟨rfl, T0⟩; rw [← HW2.out] at T0; have S0 := T0; obtain ⟨⟨c0, c1, c2, c3⟩, d0, d1, d2, d3⟩ := HKP.out _ S0)
      | (go_at_call 41; (with_reducible refine (deepVal41 30 x _ 30 rfl (by omega) (HX.out.turned0 S0)).mono ?_); rintro e W1 ⟨rfl, T1⟩; rw [HDX.out]; have S1 := S0.trans T1; obtain ⟨⟨c0, c1, c2, c3⟩, d0, d1, d2, d3⟩ := HKP.out _ S1; clear S0 T0 T1)
      | (go_at_call 41; (with_reducible refine (deepVal41 30 y _ 30 rfl (by omega) (HY.out.turned0 S1)).mono ?_); rintro e W2 ⟨rfl, T2⟩; rw [HDY.out]; have HS2 := Lib.hid (S1.trans T2); clear c0 c1 c2 c3 d0 d1 d2 d3 S1 T2))
    have HXW := Lib.hid (HX.out.turned0 HS2.out)
    have HYW := Lib.hid (HY.out.turned0 HS2.out)
    have HCW := Lib.hid (fun W (T : Turned (fun _ => False) W2 W) => HKP.out W (HS2.out.trans T))
    refine wp_region_ssa' (G := (fun dd vv W => (match dd with | 13 => vv = .agg #[.int .i64 x.kind, .int .i64 x.n, .string x.name, .slice x.at_.1 x.args.length x.at_.2] | 14 => vv = K | 15 => vv = K | 16 => vv = .agg #[.int .i64 x.kind, .int .i64 x.n, .string x.name, .slice x.at_.1 x.args.length x.at_.2] | 18 => vv = K | 19 => vv = .bool false | 17 => ∃ u : LT, vv = .agg #[.int .i64 u.kind, .int .i64 u.n, .string u.name, .slice u.at_.1 u.args.length u.at_.2] ∧ u.In (fun _ => True) W ∧ u.bare = x.bare | _ => True : Prop))) [13, 14, 15, 16, 17, 18, 19] (by kernel_rfl) rfl (by kernel_rfl) ?hG ?hs ?hQ
    case hG =>
      intro d vv W WW2 T h
      split at h <;> first
        | exact h
        | (obtain ⟨x, x1, x2, x3⟩ := h; exact ⟨x, x1, x2.turned0 T, x3⟩)
    case hs =>
      refine ⟨?s0, ?s1, ?s2, ?s3, ?s4, ?s5, ?s6, trivial⟩
      case s0 =>
        refine stepOk_free [] [2] (by kernel_rfl) rfl ?_
        intro ac W hT hI hO
        have h2 : ac.tmps.getD 2 undef = .pointer (some ⟨w.heap.size, 0, none⟩) := hO 2 (by simp)
        show Brings Try.prog (fun vv w' => Turned (fun _ => False) W w' ∧ vv = .agg #[.int .i64 x.kind, .int .i64 x.n, .string x.name, .slice x.at_.1 x.args.length x.at_.2]) _
        obtain ⟨⟨c0, c1, c2, c3⟩, d0, d1, d2, d3⟩ := HCW.out W hT
        simp only [execOp, Act.eval, h2]
        go_simp
        try exact ⟨Turned.refl _ _, rfl⟩
      case s1 =>
        refine stepOk_free [13] [] (by kernel_rfl) rfl ?_
        intro ac W hT hI hO
        have h13 : ac.tmps.getD 13 undef = .agg #[.int .i64 x.kind, .int .i64 x.n, .string x.name, .slice x.at_.1 x.args.length x.at_.2] := hI 13 (by simp)
        show Brings Try.prog (fun vv w' => Turned (fun _ => False) W w' ∧ vv = K) _
        simp only [execOp, Act.eval, h13]
        go_simp
        show Calls Try.prog 42 _ W _
        (with_reducible refine (HKX.out W (HXW.out.turned0 hT)).mono ?_)
        rintro e w' ⟨rfl, T'⟩
        exact ⟨_, rfl, T', rfl⟩
      case s2 =>
        refine stepOk_free [14] [] (by kernel_rfl) rfl ?_
        intro ac W hT hI hO
        have h14 : ac.tmps.getD 14 undef = K := hI 14 (by simp)
        show Brings Try.prog (fun vv w' => Turned (fun _ => False) W w' ∧ vv = K) _
        simp only [execOp, Act.eval, h14]
        go_simp
        show Calls Try.prog 57 _ W _
        (with_reducible refine (HK57.out W).mono ?_)
        rintro e w' ⟨rfl, T'⟩
        exact ⟨_, rfl, T', rfl⟩
      case s3 =>
        refine stepOk_free [] [2] (by kernel_rfl) rfl ?_
        intro ac W hT hI hO
        have h2 : ac.tmps.getD 2 undef = .pointer (some ⟨w.heap.size, 0, none⟩) := hO 2 (by simp)
        show Brings Try.prog (fun vv w' => Turned (fun _ => False) W w' ∧ vv = .agg #[.int .i64 x.kind, .int .i64 x.n, .string x.name, .slice x.at_.1 x.args.length x.at_.2]) _
        obtain ⟨⟨c0, c1, c2, c3⟩, d0, d1, d2, d3⟩ := HCW.out W hT
        simp only [execOp, Act.eval, h2]
        go_simp
        try exact ⟨Turned.refl _ _, rfl⟩
      case s4 =>
        refine stepOk_free [16] [] (by kernel_rfl) rfl ?_
        intro ac W hT hI hO
        have h16 : ac.tmps.getD 16 undef = .agg #[.int .i64 x.kind, .int .i64 x.n, .string x.name, .slice x.at_.1 x.args.length x.at_.2] := hI 16 (by simp)
        show Brings Try.prog (fun vv w' => Turned (fun _ => False) W w' ∧ ∃ u : LT, vv = .agg #[.int .i64 u.kind, .int .i64 u.n, .string u.name, .slice u.at_.1 u.args.length u.at_.2] ∧ u.In (fun _ => True) w' ∧ u.bare = x.bare) _
        simp only [execOp, Act.eval, h16]
        go_simp
        show Calls Try.prog 116 _ W _
        (with_reducible refine (ownVal (HXW.out.turned0 hT) HSX.out).mono ?_)
        rintro e w' ⟨u, rfl, g1, g2, T'⟩
        exact ⟨_, rfl, T', u, rfl, g2, g1⟩
      case s5 =>
        refine stepOk_free [17] [] (by kernel_rfl) rfl ?_
        intro ac W hT hI hO
        obtain ⟨u, h17, x2, x3⟩ : ∃ u : LT, ac.tmps.getD 17 undef = .agg #[.int .i64 u.kind, .int .i64 u.n, .string u.name, .slice u.at_.1 u.args.length u.at_.2] ∧ u.In (fun _ => True) W ∧ u.bare = x.bare := hI 17 (by simp)
        show Brings Try.prog (fun vv w' => Turned (fun _ => False) W w' ∧ vv = K) _
        simp only [execOp, Act.eval, h17]
        go_simp
        show Calls Try.prog 115 _ W _
        (with_reducible refine (HDOC.out u W x2 x3).mono ?_)
        rintro e w' ⟨rfl, T'⟩
        exact ⟨_, rfl, T', rfl⟩
      case s6 =>
        refine stepOk_free [15, 18] [] (by kernel_rfl) rfl ?_
        intro ac W hT hI hO
        have h15 : ac.tmps.getD 15 undef = K := hI 15 (by simp)
        have h18 : ac.tmps.getD 18 undef = K := hI 18 (by simp)
        show Brings Try.prog (fun vv w' => Turned (fun _ => False) W w' ∧ vv = .bool false) _
        have hne := HNE.out W
        rw [HKV.out] at h15 h18
        simp only [execOp, Act.eval, h15, h18]
        go_simp
        try exact ⟨Turned.refl _ _, rfl⟩
    case hQ =>
      intro vs5 w9 T9 hV
      have q19 : vs5 19 = .bool false := hV 19 (by simp)
      simp only [List.foldl_cons, List.foldl_nil, List.setIfInBounds_toArray, List.set_cons_zero, List.set_cons_succ, q19]
      have HT9 := Lib.hid T9
      have HXW9 := Lib.hid (HXW.out.turned0 T9)
      have HYW9 := Lib.hid (HYW.out.turned0 T9)
      have HCW9 := Lib.hid (fun W (T : Turned (fun _ => False) w9 W) => HCW.out W (T9.trans T))
      clear hV q19 T9
      go_wp2_with fail
      refine wp_region_ssa' (G := (fun dd vv W => (match dd with | 20 => vv = .agg #[.int .i64 x.kind, .int .i64 x.n, .string x.name, .slice x.at_.1 x.args.length x.at_.2] | 21 => vv = .agg #[.int .i64 y.kind, .int .i64 y.n, .string y.name, .slice y.at_.1 y.args.length y.at_.2] | 22 => vv = .bool true | 23 => vv = .bool false | 24 => vv = .bool false | 25 => vv = .agg #[.int .i64 x.kind, .int .i64 x.n, .string x.name, .slice x.at_.1 x.args.length x.at_.2] | 26 => vv = K | 27 => vv = .agg #[.int .i64 y.kind, .int .i64 y.n, .string y.name, .slice y.at_.1 y.args.length y.at_.2] | 28 => vv = KY | 29 => vv = .bool true | 30 => vv = .bool true | 4 => vv = .bool true  | _ => True : Prop))) [20, 21, 22, 23, 24, 25, 26, 27, 28, 29, 30, 4] (by kernel_rfl) rfl (by kernel_rfl) ?hG ?hs ?hQ
      case hG =>
        intro d vv W WW2 T h
        split at h <;> first
          | exact h
          | (obtain ⟨x, x1, x2, x3⟩ := h; exact ⟨x, x1, x2.turned0 T, x3⟩)
      case hs =>
        refine ⟨?s0, ?s1, ?s2, ?s3, ?s4, ?s5, ?s6, ?s7, ?s8, ?s9, ?s10, ?s11, trivial⟩
        case s0 =>
          refine stepOk_free [] [2] (by kernel_rfl) rfl ?_
          intro ac W hT hI hO
          have h2 : ac.tmps.getD 2 undef = .pointer (some ⟨w.heap.size, 0, none⟩) := hO 2 (by simp)
          show Brings Try.prog (fun vv w' => Turned (fun _ => False) W w' ∧ vv = .agg #[.int .i64 x.kind, .int .i64 x.n, .string x.name, .slice x.at_.1 x.args.length x.at_.2]) _
          obtain ⟨⟨c0, c1, c2, c3⟩, d0, d1, d2, d3⟩ := HCW9.out W hT
          simp only [execOp, Act.eval, h2]
          go_simp
          try exact ⟨Turned.refl _ _, rfl⟩
        case s1 =>
          refine stepOk_free [] [3] (by kernel_rfl) rfl ?_
          intro ac W hT hI hO
          have h3 : ac.tmps.getD 3 undef = .pointer (some ⟨w.heap.size + 1, 0, none⟩) := hO 3 (by simp)
          show Brings Try.prog (fun vv w' => Turned (fun _ => False) W w' ∧ vv = .agg #[.int .i64 y.kind, .int .i64 y.n, .string y.name, .slice y.at_.1 y.args.length y.at_.2]) _
          obtain ⟨⟨c0, c1, c2, c3⟩, d0, d1, d2, d3⟩ := HCW9.out W hT
          simp only [execOp, Act.eval, h3]
          go_simp
          try exact ⟨Turned.refl _ _, rfl⟩
        case s2 =>
          refine stepOk_free [20, 21] [] (by kernel_rfl) rfl ?_
          intro ac W hT hI hO
          have h20 : ac.tmps.getD 20 undef = .agg #[.int .i64 x.kind, .int .i64 x.n, .string x.name, .slice x.at_.1 x.args.length x.at_.2] := hI 20 (by simp)
          have h21 : ac.tmps.getD 21 undef = .agg #[.int .i64 y.kind, .int .i64 y.n, .string y.name, .slice y.at_.1 y.args.length y.at_.2] := hI 21 (by simp)
          show Brings Try.prog (fun vv w' => Turned (fun _ => False) W w' ∧ vv = .bool true) _
          simp only [execOp, Act.eval, h20, h21]
          go_simp
          show Calls Try.prog 112 _ W _
          (with_reducible refine (couldVal (HXW9.out.turned0 hT) HSX.out (HYW9.out.turned0 hT) HSY.out HCB.out).mono ?_)
          rintro e w' ⟨rfl, T'⟩
          exact ⟨_, rfl, T', rfl⟩
        case s3 =>
          refine stepOk_free [22] [] (by kernel_rfl) rfl ?_
          intro ac W hT hI hO
          have h22 : ac.tmps.getD 22 undef = .bool true := hI 22 (by simp)
          show Brings Try.prog (fun vv w' => Turned (fun _ => False) W w' ∧ vv = .bool false) _
          simp only [execOp, Act.eval, h22]
          go_simp
          try exact ⟨Turned.refl _ _, rfl⟩
        case s4 =>
          refine stepOk_free [23] [] (by kernel_rfl) rfl ?_
          intro ac W hT hI hO
          have h23 : ac.tmps.getD 23 undef = .bool false := hI 23 (by simp)
          show Brings Try.prog (fun vv w' => Turned (fun _ => False) W w' ∧ vv = .bool false) _
          simp only [execOp, Act.eval, h23]
          go_simp
          try exact ⟨Turned.refl _ _, rfl⟩
        case s5 =>
          refine stepOk_guard [24] [2] (by kernel_rfl) 4 false 24 rfl rfl (by simp) true false (fun _ _ h => h) (fun hc => ?_) (fun hc => by cases hc)
          intro ac W hT hI hO
          have h24 : ac.tmps.getD 24 undef = .bool false := hI 24 (by simp)
          have h2 : ac.tmps.getD 2 undef = .pointer (some ⟨w.heap.size, 0, none⟩) := hO 2 (by simp)
          show Brings Try.prog (fun vv w' => Turned (fun _ => False) W w' ∧ vv = .agg #[.int .i64 x.kind, .int .i64 x.n, .string x.name, .slice x.at_.1 x.args.length x.at_.2]) _
          obtain ⟨⟨c0, c1, c2, c3⟩, d0, d1, d2, d3⟩ := HCW9.out W hT
          simp only [execOp, Act.eval, h24, h2]
          go_simp
          try exact ⟨Turned.refl _ _, rfl⟩
        case s6 =>
          refine stepOk_guard [25, 24] [] (by kernel_rfl) 4 false 24 rfl rfl (by simp) true false (fun _ _ h => h) (fun hc => ?_) (fun hc => by cases hc)
          intro ac W hT hI hO
          have h25 : ac.tmps.getD 25 undef = .agg #[.int .i64 x.kind, .int .i64 x.n, .string x.name, .slice x.at_.1 x.args.length x.at_.2] := hI 25 (by simp)
          have h24 : ac.tmps.getD 24 undef = .bool false := hI 24 (by simp)
          show Brings Try.prog (fun vv w' => Turned (fun _ => False) W w' ∧ vv = K) _
          simp only [execOp, Act.eval, h25, h24]
          go_simp
          show Calls Try.prog 42 _ W _
          (with_reducible refine (HKX.out W (HXW9.out.turned0 hT)).mono ?_)
          rintro e w' ⟨rfl, T'⟩
          exact ⟨_, rfl, T', rfl⟩
        case s7 =>
          refine stepOk_guard [24] [3] (by kernel_rfl) 4 false 24 rfl rfl (by simp) true false (fun _ _ h => h) (fun hc => ?_) (fun hc => by cases hc)
          intro ac W hT hI hO
          have h24 : ac.tmps.getD 24 undef = .bool false := hI 24 (by simp)
          have h3 : ac.tmps.getD 3 undef = .pointer (some ⟨w.heap.size + 1, 0, none⟩) := hO 3 (by simp)
          show Brings Try.prog (fun vv w' => Turned (fun _ => False) W w' ∧ vv = .agg #[.int .i64 y.kind, .int .i64 y.n, .string y.name, .slice y.at_.1 y.args.length y.at_.2]) _
          obtain ⟨⟨c0, c1, c2, c3⟩, d0, d1, d2, d3⟩ := HCW9.out W hT
          simp only [execOp, Act.eval, h24, h3]
          go_simp
          try exact ⟨Turned.refl _ _, rfl⟩
        case s8 =>
          refine stepOk_guard [27, 24] [] (by kernel_rfl) 4 false 24 rfl rfl (by simp) true false (fun _ _ h => h) (fun hc => ?_) (fun hc => by cases hc)
          intro ac W hT hI hO
          have h27 : ac.tmps.getD 27 undef = .agg #[.int .i64 y.kind, .int .i64 y.n, .string y.name, .slice y.at_.1 y.args.length y.at_.2] := hI 27 (by simp)
          have h24 : ac.tmps.getD 24 undef = .bool false := hI 24 (by simp)
          show Brings Try.prog (fun vv w' => Turned (fun _ => False) W w' ∧ vv = KY) _
          simp only [execOp, Act.eval, h27, h24]
          go_simp
          show Calls Try.prog 42 _ W _
          (with_reducible refine (HKYV.out W (HYW9.out.turned0 hT)).mono ?_)
          rintro e w' ⟨rfl, T'⟩
          exact ⟨_, rfl, T', rfl⟩
        case s9 =>
          refine stepOk_guard [26, 28, 24] [] (by kernel_rfl) 4 false 24 rfl rfl (by simp) true false (fun _ _ h => h) (fun hc => ?_) (fun hc => by cases hc)
          intro ac W hT hI hO
          have h26 : ac.tmps.getD 26 undef = K := hI 26 (by simp)
          have h28 : ac.tmps.getD 28 undef = KY := hI 28 (by simp)
          have h24 : ac.tmps.getD 24 undef = .bool false := hI 24 (by simp)
          show Brings Try.prog (fun vv w' => Turned (fun _ => False) W w' ∧ vv = .bool true) _
          simp only [execOp, Act.eval, h26, h28, h24]
          go_simp
          show Calls Try.prog 43 _ W _
          (with_reducible refine (HMAY.out W).mono ?_)
          rintro e w' ⟨rfl, T'⟩
          exact ⟨_, rfl, T', rfl⟩
        case s10 =>
          refine stepOk_free [24, 29] [] (by kernel_rfl) rfl ?_
          intro ac W hT hI hO
          have h24 : ac.tmps.getD 24 undef = .bool false := hI 24 (by simp)
          have h29 : ac.tmps.getD 29 undef = .bool true := hI 29 (by simp)
          show Brings Try.prog (fun vv w' => Turned (fun _ => False) W w' ∧ vv = .bool true) _
          simp only [execOp, Act.eval, h24, h29]
          go_simp
          try exact ⟨Turned.refl _ _, rfl⟩
        case s11 =>
          refine stepOk_free [30] [] (by kernel_rfl) rfl ?_
          intro ac W hT hI hO
          have h30 : ac.tmps.getD 30 undef = .bool true := hI 30 (by simp)
          show Brings Try.prog (fun vv w' => Turned (fun _ => False) W w' ∧ vv = .bool true) _
          simp only [execOp, Act.eval, h30]
          go_simp
          try exact ⟨Turned.refl _ _, rfl⟩
      case hQ =>
        intro vs7 w10 T10 hV
        have q4 : vs7 4 = .bool true := hV 4 (by simp)
        simp only [List.foldl_cons, List.foldl_nil, List.setIfInBounds_toArray, List.set_cons_zero, List.set_cons_succ, q4]
        have HT10 := Lib.hid T10
        clear hV q4 T10
        go_wp2_with fail
        go_ret
        exact ⟨rfl, ((HT2.out.trans HS2.out).trans HT9.out).trans HT10.out⟩
  | false =>
    have HCB := Lib.hid hcb
    clear hcb
    go_enter Try.func25, Try.ntmps25
    go_wp2_with (first
      | (go_at_call 40; refine (awake40 _).mono ?_; rintro e W0 ⟨rfl, T0⟩; rw [← HW2.out] at T0; have S0 := T0; obtain ⟨⟨c0, c1, c2, c3⟩, d0, d1, d2, d3⟩ := HKP.out _ S0)
      | (go_at_call 41; (with_reducible refine (deepVal41 30 x _ 30 rfl (by omega) (HX.out.turned0 S0)).mono ?_); rintro e W1 ⟨rfl, T1⟩; rw [HDX.out]; have S1 := S0.trans T1; obtain ⟨⟨c0, c1, c2, c3⟩, d0, d1, d2, d3⟩ := HKP.out _ S1; clear S0 T0 T1)
      | (go_at_call 41; (with_reducible refine (deepVal41 30 y _ 30 rfl (by omega) (HY.out.turned0 S1)).mono ?_); rintro e W2 ⟨rfl, T2⟩; rw [HDY.out]; have HS2 := Lib.hid (S1.trans T2); clear c0 c1 c2 c3 d0 d1 d2 d3 S1 T2))
    have HXW := Lib.hid (HX.out.turned0 HS2.out)
    have HYW := Lib.hid (HY.out.turned0 HS2.out)
    have HCW := Lib.hid (fun W (T : Turned (fun _ => False) W2 W) => HKP.out W (HS2.out.trans T))
    refine wp_region_ssa' (G := (fun dd vv W => (match dd with | 13 => vv = .agg #[.int .i64 x.kind, .int .i64 x.n, .string x.name, .slice x.at_.1 x.args.length x.at_.2] | 14 => vv = K | 15 => vv = K | 16 => vv = .agg #[.int .i64 x.kind, .int .i64 x.n, .string x.name, .slice x.at_.1 x.args.length x.at_.2] | 18 => vv = K | 19 => vv = .bool false | 17 => ∃ u : LT, vv = .agg #[.int .i64 u.kind, .int .i64 u.n, .string u.name, .slice u.at_.1 u.args.length u.at_.2] ∧ u.In (fun _ => True) W ∧ u.bare = x.bare | _ => True : Prop))) [13, 14, 15, 16, 17, 18, 19] (by kernel_rfl) rfl (by kernel_rfl) ?hG ?hs ?hQ
    case hG =>
      intro d vv W WW2 T h
      split at h <;> first
        | exact h
        | (obtain ⟨x, x1, x2, x3⟩ := h; exact ⟨x, x1, x2.turned0 T, x3⟩)
    case hs =>
      refine ⟨?s0, ?s1, ?s2, ?s3, ?s4, ?s5, ?s6, trivial⟩
      case s0 =>
        refine stepOk_free [] [2] (by kernel_rfl) rfl ?_
        intro ac W hT hI hO
        have h2 : ac.tmps.getD 2 undef = .pointer (some ⟨w.heap.size, 0, none⟩) := hO 2 (by simp)
        show Brings Try.prog (fun vv w' => Turned (fun _ => False) W w' ∧ vv = .agg #[.int .i64 x.kind, .int .i64 x.n, .string x.name, .slice x.at_.1 x.args.length x.at_.2]) _
        obtain ⟨⟨c0, c1, c2, c3⟩, d0, d1, d2, d3⟩ := HCW.out W hT
        simp only [execOp, Act.eval, h2]
        go_simp
        try exact ⟨Turned.refl _ _, rfl⟩
      case s1 =>
        refine stepOk_free [13] [] (by kernel_rfl) rfl ?_
        intro ac W hT hI hO
        have h13 : ac.tmps.getD 13 undef = .agg #[.int .i64 x.kind, .int .i64 x.n, .string x.name, .slice x.at_.1 x.args.length x.at_.2] := hI 13 (by simp)
        show Brings Try.prog (fun vv w' => Turned (fun _ => False) W w' ∧ vv = K) _
        simp only [execOp, Act.eval, h13]
        go_simp
        show Calls Try.prog 42 _ W _
        (with_reducible refine (HKX.out W (HXW.out.turned0 hT)).mono ?_)
        rintro e w' ⟨rfl, T'⟩
        exact ⟨_, rfl, T', rfl⟩
      case s2 =>
        refine stepOk_free [14] [] (by kernel_rfl) rfl ?_
        intro ac W hT hI hO
        have h14 : ac.tmps.getD 14 undef = K := hI 14 (by simp)
        show Brings Try.prog (fun vv w' => Turned (fun _ => False) W w' ∧ vv = K) _
        simp only [execOp, Act.eval, h14]
        go_simp
        show Calls Try.prog 57 _ W _
        (with_reducible refine (HK57.out W).mono ?_)
        rintro e w' ⟨rfl, T'⟩
        exact ⟨_, rfl, T', rfl⟩
      case s3 =>
        refine stepOk_free [] [2] (by kernel_rfl) rfl ?_
        intro ac W hT hI hO
        have h2 : ac.tmps.getD 2 undef = .pointer (some ⟨w.heap.size, 0, none⟩) := hO 2 (by simp)
        show Brings Try.prog (fun vv w' => Turned (fun _ => False) W w' ∧ vv = .agg #[.int .i64 x.kind, .int .i64 x.n, .string x.name, .slice x.at_.1 x.args.length x.at_.2]) _
        obtain ⟨⟨c0, c1, c2, c3⟩, d0, d1, d2, d3⟩ := HCW.out W hT
        simp only [execOp, Act.eval, h2]
        go_simp
        try exact ⟨Turned.refl _ _, rfl⟩
      case s4 =>
        refine stepOk_free [16] [] (by kernel_rfl) rfl ?_
        intro ac W hT hI hO
        have h16 : ac.tmps.getD 16 undef = .agg #[.int .i64 x.kind, .int .i64 x.n, .string x.name, .slice x.at_.1 x.args.length x.at_.2] := hI 16 (by simp)
        show Brings Try.prog (fun vv w' => Turned (fun _ => False) W w' ∧ ∃ u : LT, vv = .agg #[.int .i64 u.kind, .int .i64 u.n, .string u.name, .slice u.at_.1 u.args.length u.at_.2] ∧ u.In (fun _ => True) w' ∧ u.bare = x.bare) _
        simp only [execOp, Act.eval, h16]
        go_simp
        show Calls Try.prog 116 _ W _
        (with_reducible refine (ownVal (HXW.out.turned0 hT) HSX.out).mono ?_)
        rintro e w' ⟨u, rfl, g1, g2, T'⟩
        exact ⟨_, rfl, T', u, rfl, g2, g1⟩
      case s5 =>
        refine stepOk_free [17] [] (by kernel_rfl) rfl ?_
        intro ac W hT hI hO
        obtain ⟨u, h17, x2, x3⟩ : ∃ u : LT, ac.tmps.getD 17 undef = .agg #[.int .i64 u.kind, .int .i64 u.n, .string u.name, .slice u.at_.1 u.args.length u.at_.2] ∧ u.In (fun _ => True) W ∧ u.bare = x.bare := hI 17 (by simp)
        show Brings Try.prog (fun vv w' => Turned (fun _ => False) W w' ∧ vv = K) _
        simp only [execOp, Act.eval, h17]
        go_simp
        show Calls Try.prog 115 _ W _
        (with_reducible refine (HDOC.out u W x2 x3).mono ?_)
        rintro e w' ⟨rfl, T'⟩
        exact ⟨_, rfl, T', rfl⟩
      case s6 =>
        refine stepOk_free [15, 18] [] (by kernel_rfl) rfl ?_
        intro ac W hT hI hO
        have h15 : ac.tmps.getD 15 undef = K := hI 15 (by simp)
        have h18 : ac.tmps.getD 18 undef = K := hI 18 (by simp)
        show Brings Try.prog (fun vv w' => Turned (fun _ => False) W w' ∧ vv = .bool false) _
        have hne := HNE.out W
        rw [HKV.out] at h15 h18
        simp only [execOp, Act.eval, h15, h18]
        go_simp
        try exact ⟨Turned.refl _ _, rfl⟩
    case hQ =>
      intro vs5 w9 T9 hV
      have q19 : vs5 19 = .bool false := hV 19 (by simp)
      simp only [List.foldl_cons, List.foldl_nil, List.setIfInBounds_toArray, List.set_cons_zero, List.set_cons_succ, q19]
      have HT9 := Lib.hid T9
      have HXW9 := Lib.hid (HXW.out.turned0 T9)
      have HYW9 := Lib.hid (HYW.out.turned0 T9)
      have HCW9 := Lib.hid (fun W (T : Turned (fun _ => False) w9 W) => HCW.out W (T9.trans T))
      clear hV q19 T9
      go_wp2_with fail
      refine wp_region_ssa' (G := (fun dd vv W => (match dd with | 20 => vv = .agg #[.int .i64 x.kind, .int .i64 x.n, .string x.name, .slice x.at_.1 x.args.length x.at_.2] | 21 => vv = .agg #[.int .i64 y.kind, .int .i64 y.n, .string y.name, .slice y.at_.1 y.args.length y.at_.2] | 22 => vv = .bool false | 23 => vv = .bool true | 24 => vv = .bool true | 25 => vv = undef | 26 => vv = undef | 27 => vv = undef | 28 => vv = undef | 29 => vv = undef | 30 => vv = .bool true | 4 => vv = .bool true  | _ => True : Prop))) [20, 21, 22, 23, 24, 25, 26, 27, 28, 29, 30, 4] (by kernel_rfl) rfl (by kernel_rfl) ?hG ?hs ?hQ
      case hG =>
        intro d vv W WW2 T h
        split at h <;> first
          | exact h
          | (obtain ⟨x, x1, x2, x3⟩ := h; exact ⟨x, x1, x2.turned0 T, x3⟩)
      case hs =>
        refine ⟨?s0, ?s1, ?s2, ?s3, ?s4, ?s5, ?s6, ?s7, ?s8, ?s9, ?s10, ?s11, trivial⟩
        case s0 =>
          refine stepOk_free [] [2] (by kernel_rfl) rfl ?_
          intro ac W hT hI hO
          have h2 : ac.tmps.getD 2 undef = .pointer (some ⟨w.heap.size, 0, none⟩) := hO 2 (by simp)
          show Brings Try.prog (fun vv w' => Turned (fun _ => False) W w' ∧ vv = .agg #[.int .i64 x.kind, .int .i64 x.n, .string x.name, .slice x.at_.1 x.args.length x.at_.2]) _
          obtain ⟨⟨c0, c1, c2, c3⟩, d0, d1, d2, d3⟩ := HCW9.out W hT
          simp only [execOp, Act.eval, h2]
          go_simp
          try exact ⟨Turned.refl _ _, rfl⟩
        case s1 =>
          refine stepOk_free [] [3] (by kernel_rfl) rfl ?_
          intro ac W hT hI hO
          have h3 : ac.tmps.getD 3 undef = .pointer (some ⟨w.heap.size + 1, 0, none⟩) := hO 3 (by simp)
          show Brings Try.prog (fun vv w' => Turned (fun _ => False) W w' ∧ vv = .agg #[.int .i64 y.kind, .int .i64 y.n, .string y.name, .slice y.at_.1 y.args.length y.at_.2]) _
          obtain ⟨⟨c0, c1, c2, c3⟩, d0, d1, d2, d3⟩ := HCW9.out W hT
          simp only [execOp, Act.eval, h3]
          go_simp
          try exact ⟨Turned.refl _ _, rfl⟩
        case s2 =>
          refine stepOk_free [20, 21] [] (by kernel_rfl) rfl ?_
          intro ac W hT hI hO
          have h20 : ac.tmps.getD 20 undef = .agg #[.int .i64 x.kind, .int .i64 x.n, .string x.name, .slice x.at_.1 x.args.length x.at_.2] := hI 20 (by simp)
          have h21 : ac.tmps.getD 21 undef = .agg #[.int .i64 y.kind, .int .i64 y.n, .string y.name, .slice y.at_.1 y.args.length y.at_.2] := hI 21 (by simp)
          show Brings Try.prog (fun vv w' => Turned (fun _ => False) W w' ∧ vv = .bool false) _
          simp only [execOp, Act.eval, h20, h21]
          go_simp
          show Calls Try.prog 112 _ W _
          (with_reducible refine (couldVal (HXW9.out.turned0 hT) HSX.out (HYW9.out.turned0 hT) HSY.out HCB.out).mono ?_)
          rintro e w' ⟨rfl, T'⟩
          exact ⟨_, rfl, T', rfl⟩
        case s3 =>
          refine stepOk_free [22] [] (by kernel_rfl) rfl ?_
          intro ac W hT hI hO
          have h22 : ac.tmps.getD 22 undef = .bool false := hI 22 (by simp)
          show Brings Try.prog (fun vv w' => Turned (fun _ => False) W w' ∧ vv = .bool true) _
          simp only [execOp, Act.eval, h22]
          go_simp
          try exact ⟨Turned.refl _ _, rfl⟩
        case s4 =>
          refine stepOk_free [23] [] (by kernel_rfl) rfl ?_
          intro ac W hT hI hO
          have h23 : ac.tmps.getD 23 undef = .bool true := hI 23 (by simp)
          show Brings Try.prog (fun vv w' => Turned (fun _ => False) W w' ∧ vv = .bool true) _
          simp only [execOp, Act.eval, h23]
          go_simp
          try exact ⟨Turned.refl _ _, rfl⟩
        case s5 => exact stepOk_guard [24] [2] (by kernel_rfl) 4 false 24 rfl rfl (by simp) true true (fun _ _ h => h) (fun hc => by cases hc) (fun _ _ => rfl)
        case s6 => exact stepOk_guard [25, 24] [] (by kernel_rfl) 4 false 24 rfl rfl (by simp) true true (fun _ _ h => h) (fun hc => by cases hc) (fun _ _ => rfl)
        case s7 => exact stepOk_guard [24] [3] (by kernel_rfl) 4 false 24 rfl rfl (by simp) true true (fun _ _ h => h) (fun hc => by cases hc) (fun _ _ => rfl)
        case s8 => exact stepOk_guard [27, 24] [] (by kernel_rfl) 4 false 24 rfl rfl (by simp) true true (fun _ _ h => h) (fun hc => by cases hc) (fun _ _ => rfl)
        case s9 => exact stepOk_guard [26, 28, 24] [] (by kernel_rfl) 4 false 24 rfl rfl (by simp) true true (fun _ _ h => h) (fun hc => by cases hc) (fun _ _ => rfl)
        case s10 =>
          refine stepOk_free [24, 29] [] (by kernel_rfl) rfl ?_
          intro ac W hT hI hO
          have h24 : ac.tmps.getD 24 undef = .bool true := hI 24 (by simp)
          have h29 : ac.tmps.getD 29 undef = undef := hI 29 (by simp)
          show Brings Try.prog (fun vv w' => Turned (fun _ => False) W w' ∧ vv = .bool true) _
          simp only [execOp, Act.eval, h24, h29]
          go_simp
          try exact ⟨Turned.refl _ _, rfl⟩
        case s11 =>
          refine stepOk_free [30] [] (by kernel_rfl) rfl ?_
          intro ac W hT hI hO
          have h30 : ac.tmps.getD 30 undef = .bool true := hI 30 (by simp)
          show Brings Try.prog (fun vv w' => Turned (fun _ => False) W w' ∧ vv = .bool true) _
          simp only [execOp, Act.eval, h30]
          go_simp
          try exact ⟨Turned.refl _ _, rfl⟩
      case hQ =>
        intro vs7 w10 T10 hV
        have q4 : vs7 4 = .bool true := hV 4 (by simp)
        simp only [List.foldl_cons, List.foldl_nil, List.setIfInBounds_toArray, List.set_cons_zero, List.set_cons_succ, q4]
        have HT10 := Lib.hid T10
        clear hV q4 T10
        go_wp2_with fail
        go_ret
        exact ⟨rfl, ((HT2.out.trans HS2.out).trans HT9.out).trans HT10.out⟩
end Go.Proofs.Ytoihjobdfjajfaa

/- How a term, a slice of terms that came in is opened. -/
namespace Go.Proofs.Ytoihjobdfjajfaa
open Go.Joins Go.Deep Go.ChangeShapes Go.WideShapes Go.ChangeAt Go.RowKit
set_option linter.unusedVariables false
set_option linter.unusedSimpArgs false

theorem cellsOf27 : Try.prog.cellsOf 27 = 4 := by kernel_rfl
theorem cellsOf22 : Try.prog.cellsOf 22 = 1 := by kernel_rfl
theorem cellsOf3 : Try.prog.cellsOf 3 = 1 := by kernel_rfl
theorem cellsOf2 : Try.prog.cellsOf 2 = 1 := by kernel_rfl
theorem cellsOf9 : Try.prog.cellsOf 9 = 1 := by kernel_rfl
theorem I64_of {n : Int} (h : (Lit.int .i64 n).wf = true) : I64 n := by
  unfold I64
  simp [Lit.wf] at h
  have e1 : IntKind.i64.min = -9223372036854775808 := by decide
  have e2 : IntKind.i64.max = 9223372036854775807 := by decide
  omega

section
variable {H : Type} {enc : TypeId × Value → H} {W : World} {base : Nat} {sp : Nat → Bool} {held : Bool}
theorem list4 {α : Type} {l : List α} (h : l.length = 4) : ∃ a b c d, l = [a, b, c, d] := by
  match l, h with
  | [a, b, c, d], _ => exact ⟨a, b, c, d, rfl⟩
set_option maxRecDepth 100000 in
theorem terms_of (fuel : Nat) : (∀ cs (x : DataW H × List MemPlace), DataW.trod enc Try.prog W base sp held fuel 27 cs = some x → ∃ t : LT, cs = t.cells ∧ t.In (fun _ => True) W) ∧
    (∀ cs (x : DataW H × List MemPlace), DataW.trod enc Try.prog W base sp held fuel 22 cs = some x → ∃ a cap, ∃ l : List LT, cs = [.slice a l.length cap] ∧ LT.Sl (fun _ => True) W a cap l) := by
  induction fuel with
  | zero => exact ⟨fun cs x h => by simp [DataW.trod] at h, fun cs x h => by simp [DataW.trod] at h⟩
  | succ fuel ih =>
    refine ⟨fun cs x h => ?_, fun cs x h => ?_⟩
    · obtain ⟨xs, n, hn, hx, hcs, hlen, hf⟩ := DataW.trod_struct Try.underlying27 h
      have hn : fuel = n := by omega
      subst hn
      rw [cellsOf27] at hcs
      obtain ⟨u0, u1, u2, u3, rfl⟩ := list4 hcs
      obtain ⟨y0, y1, y2, y3, rfl⟩ := list4 hlen
      · · have f0 : DataW.trod enc Try.prog W base sp held fuel 3 (([u0, u1, u2, u3].drop 0).take (Try.prog.cellsOf 3)) = some y0 := hf 0 _ rfl
          have f1 : DataW.trod enc Try.prog W base sp held fuel 2 (([u0, u1, u2, u3].drop 1).take (Try.prog.cellsOf 2)) = some y1 := hf 1 _ rfl
          have f2 : DataW.trod enc Try.prog W base sp held fuel 9 (([u0, u1, u2, u3].drop 2).take (Try.prog.cellsOf 9)) = some y2 := hf 2 _ rfl
          have f3 : DataW.trod enc Try.prog W base sp held fuel 22 (([u0, u1, u2, u3].drop 3).take (Try.prog.cellsOf 22)) = some y3 := hf 3 _ rfl
          simp only [cellsOf3, cellsOf2, cellsOf9, cellsOf22] at f0 f1 f2 f3
          simp at f0 f1 f2 f3
          obtain ⟨k, e0, _, wk⟩ := DataW.trod_int Try.underlying3 f0
          obtain ⟨m, e1, _, wm⟩ := DataW.trod_int Try.underlying2 f1
          obtain ⟨s, e2, _, ws⟩ := DataW.trod_string Try.underlying9 f2
          obtain ⟨a, cap, l, e3, hl⟩ := ih.2 _ _ f3
          simp at e0 e1 e2 e3
          subst e0 e1 e2 e3
          exact ⟨.mk k m s (a, cap) l, rfl, hl.in_ (I64_of wk) (I64_of wm) ws⟩
    · rcases DataW.trod_slice Try.underlying22 h with ⟨hcs, _⟩ | ⟨ad, len, cap, elems, rest, n, hn, hcs, _, _, hl, hm, hlen, hel, _⟩
      · exact ⟨none, 0, [], hcs, ⟨fun _ => ⟨rfl, rfl⟩, fun h => by simp at h, trivial, Nat.le_refl _, by unfold maxLen; omega⟩⟩
      · have hn : fuel = n := by omega
        subst hn
        rw [cellsOf27] at hel
        have hp : ∀ i, ∃ t : LT, i < len → t.In (fun _ => True) W ∧ ∀ j, j < 4 → W.cell? (ad.add (i * 4 + j)) = t.cells[j]? := by
          intro i
          by_cases hi : i < len
          · have he := hel i hi
            rw [List.getElem?_eq_getElem (by omega)] at he
            obtain ⟨cs', hc, ht⟩ := Option.bind_eq_some_iff.1 he
            obtain ⟨t, rfl, hin⟩ := ih.1 _ _ ht
            obtain ⟨_, _, hat⟩ := World.cells?_some hc
            refine ⟨t, fun _ => ⟨hin, fun j hj => ?_⟩⟩
            rw [← hat j hj]
            congr 1
            exact (add_add ..).symm
          · exact ⟨.mk 0 0 ByteArray.empty (none, 0) [], fun h => absurd h hi⟩
        obtain ⟨f, hff⟩ := Classical.axiomOfChoice hp
        refine ⟨some ad, cap, (List.range len).map f, by simpa using hcs, ⟨(fun e => by cases e), fun hpos => ?_, (LT.ins_iff _).2 fun x hx => ?_, by simpa using hl, hm⟩⟩
        · simp at hpos
          obtain ⟨b, o, spot⟩ := ad
          have hc := (hff 0 (by omega)).2 0 (by omega)
          have hspot : spot = none := by
            rw [LT.cells_eq] at hc
            simpa [Addr.add] using World.cell?_spot hc
          subst hspot
          refine ⟨b, o, rfl, trivial, fun j u hu => ?_⟩
          have hlt := (List.getElem?_eq_some_iff.1 hu).1
          rw [LT.flat_length, List.length_map, List.length_range] at hlt
          have hi : j / 4 < len := by omega
          have hx : ((List.range len).map f)[j / 4]? = some (f (j / 4)) := by rw [List.getElem?_map, List.getElem?_range hi]; rfl
          have h4 := LT.flat_at hx (j % 4) (by omega)
          rw [show j / 4 * 4 + j % 4 = j by omega, hu] at h4
          have hc := (hff (j / 4) hi).2 (j % 4) (by omega)
          rw [show j / 4 * 4 + j % 4 = j by omega, Addr.add_lit] at hc
          rw [hc, h4]
        · obtain ⟨i, hi, rfl⟩ := List.mem_map.1 hx
          exact (hff i (by simpa using hi)).1
theorem slT_of {fuel : Nat} {a : Option Addr} {len cap : Nat} {x : DataW H × List MemPlace} (hf : DataW.trod enc Try.prog W base sp held fuel 22 (Value.slice a len cap).cells.toList = some x) : ∃ l : List LT, l.length = len ∧ LT.Sl (fun _ => True) W a cap l := by
  obtain ⟨a', cap', l, hcs, hl⟩ := (terms_of fuel).2 _ _ hf
  simp [Value.cells] at hcs
  obtain ⟨rfl, rfl, rfl⟩ := hcs
  exact ⟨l, rfl, hl⟩
set_option maxRecDepth 100000 in
theorem tmT_of {fuel : Nat} {r : Reach} {b0 : Nat} {v : Value} {x : DataW H × List MemPlace} (hv : Value.okWide Try.prog W r b0 27 v) (hf : DataW.trod enc Try.prog W base sp held fuel 27 v.cells.toList = some x) : ∃ t : LT, v = t.val ∧ t.In (fun _ => True) W := by
  obtain ⟨cs, rfl, hsz⟩ := okWide_struct Try.underlying27 hv
  obtain ⟨t, hcs, hin⟩ := (terms_of fuel).1 _ _ hf
  refine ⟨t, ?_, hin⟩
  cases t with | mk k n s e bs =>
  simp only [Value.cells] at hcs
  show Value.agg cs = Value.agg _
  congr 1
  exact Array.toList_inj.1 hcs
end
end Go.Proofs.Ytoihjobdfjajfaa
