/- OrderSays: the walk. -/
import Derived.Test.YtoihjobdfjajfaaOS2
import Derived.Test.YtoihjobdfjajfaaOwn74
import Derived.Test.YtoihjobdfjajfaaTwin
namespace Go.Proofs.Ytoihjobdfjajfaa
set_option linter.unusedVariables false
set_option linter.unusedSimpArgs false
open Go.RowKit
theorem deepJ66 (t : LT) (W : World) (h : t.In (fun _ => True) W) : Calls Try.prog 66 #[t.val, .int .i64 70] W fun e w' => e = .returned (.bool (deepB 70 t)) ∧ Turned (fun _ => False) W w' := deep66 (fun _ => True) 70 t W (by omega) h
theorem testR_eq {α β : Type} {op : ByteArray} {a b : Tm α} {x y : Tm β} (h1 : x.bare = a.bare) (h2 : y.bare = b.bare) : testR op x y = testR op a b := by
  unfold testR
  rw [goodB_eq h1, goodB_eq h2, ← Tm.cmp_bare x y, h1, h2, Tm.cmp_bare]
theorem fourOf {W : World} {g : Nat} {x : LT} {T : TypeId} (h : W.heap[g]? = some (.cells #[.int .i64 x.kind, .int .i64 x.n, .string x.name, .slice x.at_.1 x.args.length x.at_.2] T (0, 0))) : (W.cell? ⟨g, 0, none⟩ = some (.int .i64 x.kind) ∧ W.cell? ⟨g, 1, none⟩ = some (.int .i64 x.n) ∧ W.cell? ⟨g, 2, none⟩ = some (.string x.name) ∧ W.cell? ⟨g, 3, none⟩ = some (.slice x.at_.1 x.args.length x.at_.2)) :=
  let ⟨a, b, c, d, _⟩ := cells4 h
  ⟨a, b, c, d⟩
set_option maxHeartbeats 1600000 in
/-- Cmp of any two: 0, if one may not be. -/
theorem cmpN68 {p : Nat → Prop} {a b : LT} {w : World} (ha : a.In p w) (hb : b.In p w) (sa : slim a) (sb : slim b) (hg : ¬ (goodB a = true ∧ goodB b = true)) :
    Calls Try.prog 68 #[a.val, b.val] w fun e w' => e = .returned (.int .i64 0) ∧ Turned (fun _ => False) w w' := by
  obtain ⟨b1, hb1⟩ : ∃ bx : Obj, bx = .cells #[.int .i64 a.kind, .int .i64 a.n, .string a.name, .slice a.at_.1 a.args.length a.at_.2] 27 := ⟨_, rfl⟩
  obtain ⟨b2, hb2⟩ : ∃ bx : Obj, bx = .cells #[.int .i64 b.kind, .int .i64 b.n, .string b.name, .slice b.at_.1 b.args.length b.at_.2] 27 := ⟨_, rfl⟩
  have T1 := ((Turned.refl (fun _ => False) w).alloc b1).alloc b2
  have hc : ∀ W, Turned (fun _ => False) ((w.alloc b1).alloc b2) W → W.heap[w.heap.size]? = some b1 ∧ W.heap[w.heap.size + 1]? = some b2 := by
    intro W h
    exact ⟨(h.block _ (by simp; omega) (fun f => f)).trans (heap_alloc2_old w b1 b2), (h.block _ (by simp) (fun f => f)).trans (heap_alloc2_new w b1 b2)⟩
  have g1 := fun W (h : Turned (fun _ => False) ((w.alloc b1).alloc b2) W) => good38 (ha.turned0 (T1.trans h)) sa
  have g2 := fun W (h : Turned (fun _ => False) ((w.alloc b1).alloc b2) W) => good38 (hb.turned0 (T1.trans h)) sb
  rw [LT.val_eq a] at g1 ⊢
  rw [LT.val_eq b] at g2 ⊢
  subst hb1 hb2
  have HC := Lib.hid hc
  have HT := Lib.hid T1
  clear hc T1 ha hb sa sb
  cases ga : goodB a with
  | false =>
    rw [ga] at g1
    have G1 := Lib.hid g1
    clear g1 g2 ga hg
    go_enter Try.func68, Try.ntmps68
    go_wp2_with (go_at_call 38; refine (G1.out _ (Turned.refl _ _)).mono ?_; rintro e w2 ⟨rfl, T2⟩)
    go_ret
    exact ⟨rfl, HT.out.trans T2⟩
  | true =>
    have gb : goodB b = false := by rw [← Bool.not_eq_true]; exact fun e => hg ⟨ga, e⟩
    rw [ga] at g1
    rw [gb] at g2
    have G1 := Lib.hid g1
    have G2 := Lib.hid g2
    clear g1 g2 ga gb hg
    go_enter Try.func68, Try.ntmps68
    go_wp2_with (first
      | (go_at_call 38; (with_reducible refine (G1.out _ (Turned.refl _ _)).mono ?_); rintro e w2 ⟨rfl, T2⟩; obtain ⟨h1, h2⟩ := HC.out _ T2; obtain ⟨d0, d1, d2, d3, _⟩ := cells4 h2; clear h1 h2)
      | (go_at_call 38; have := T2; (with_reducible refine (G2.out _ T2).mono ?_); rintro e w3 ⟨rfl, T3⟩))
    go_ret
    exact ⟨rfl, HT.out.trans (T2.trans T3)⟩
set_option maxRecDepth 100000 in
set_option maxHeartbeats 12800000 in
theorem orderSays {a b : LT} {op : ByteArray} {w : World} (ha : a.In (fun _ => True) w) (hb : b.In (fun _ => True) w) :
    Calls Try.prog 14 #[a.val, b.val, .string op] w fun e w' => e = .returned (.bool true) ∧ Turned (fun _ => False) w w' := by
  obtain ⟨w1, hw1⟩ : ∃ z, z = (w.alloc (.cells #[.int .i64 a.kind, .int .i64 a.n, .string a.name, .slice a.at_.1 a.args.length a.at_.2] 27)).alloc (.cells #[.int .i64 b.kind, .int .i64 b.n, .string b.name, .slice b.at_.1 b.args.length b.at_.2] 27) := ⟨_, rfl⟩
  have h2 := twoB w (.cells #[.int .i64 a.kind, .int .i64 a.n, .string a.name, .slice a.at_.1 a.args.length a.at_.2] 27) (.cells #[.int .i64 b.kind, .int .i64 b.n, .string b.name, .slice b.at_.1 b.args.length b.at_.2] 27)
  rw [← hw1] at h2
  have hkp : ∀ W, Turned (fun _ => False) w1 W → (W.cell? ⟨w.heap.size, 0, none⟩ = some (.int .i64 a.kind) ∧ W.cell? ⟨w.heap.size, 1, none⟩ = some (.int .i64 a.n) ∧ W.cell? ⟨w.heap.size, 2, none⟩ = some (.string a.name) ∧ W.cell? ⟨w.heap.size, 3, none⟩ = some (.slice a.at_.1 a.args.length a.at_.2)) ∧ (W.cell? ⟨w.heap.size + 1, 0, none⟩ = some (.int .i64 b.kind) ∧ W.cell? ⟨w.heap.size + 1, 1, none⟩ = some (.int .i64 b.n) ∧ W.cell? ⟨w.heap.size + 1, 2, none⟩ = some (.string b.name) ∧ W.cell? ⟨w.heap.size + 1, 3, none⟩ = some (.slice b.at_.1 b.args.length b.at_.2)) := fun W h =>
    ⟨fourOf ((h.block _ (by have := h2.2.1; omega) (fun f => f)).trans h2.2.2.1), fourOf ((h.block _ (by have := h2.2.1; omega) (fun f => f)).trans h2.2.2.2)⟩
  have ha1 := ha.turned0 h2.1
  have hb1 := hb.turned0 h2.1
  have hda := fun W (h : Turned (fun _ => False) w1 W) => deepJ66 a W (ha1.turned0 h)
  have hdb := fun W (h : Turned (fun _ => False) w1 W) => deepJ66 b W (hb1.turned0 h)
  rw [LT.val_eq a] at hda ⊢
  rw [LT.val_eq b] at hdb ⊢
  have HDa := Lib.hid hda
  have HDb := Lib.hid hdb
  have HA1 := Lib.hid ha1
  have HB1 := Lib.hid hb1
  have HKP := Lib.hid hkp
  have HT1 := Lib.hid h2.1
  have HW := Lib.hid hw1
  clear hda hdb ha1 hb1 ha hb hkp h2 hw1
  cases da : deepB 70 a with
  | true =>
    rw [da] at HDa
    clear da
    go_enter Try.func14, Try.ntmps14
    go_wp2_with (first
      | (go_at_call 65; refine (awake65 _).mono ?_; rintro e W0 ⟨rfl, T0⟩; rw [← HW.out] at T0; have S0 := T0; obtain ⟨⟨c00, c01, c02, c03⟩, ⟨d00, d01, d02, d03⟩⟩ := HKP.out _ S0)
      | (go_at_call 66; (with_reducible refine (HDa.out _ S0).mono ?_); rintro e W1 ⟨rfl, T1⟩; have S1 := S0.trans T1; obtain ⟨⟨c10, c11, c12, c13⟩, ⟨d10, d11, d12, d13⟩⟩ := HKP.out _ S1))
    go_ret
    exact ⟨rfl, HT1.out.trans S1⟩
  | false =>
  rw [da] at HDa
  have HSa := Lib.hid (deep_slim 70 a da)
  clear da
  cases db : deepB 70 b with
  | true =>
    rw [db] at HDb
    clear db
    go_enter Try.func14, Try.ntmps14
    go_wp2_with (first
      | (go_at_call 65; refine (awake65 _).mono ?_; rintro e W0 ⟨rfl, T0⟩; rw [← HW.out] at T0; have S0 := T0; obtain ⟨⟨c00, c01, c02, c03⟩, ⟨d00, d01, d02, d03⟩⟩ := HKP.out _ S0)
      | (go_at_call 66; (with_reducible refine (HDa.out _ S0).mono ?_); rintro e W1 ⟨rfl, T1⟩; have S1 := S0.trans T1; obtain ⟨⟨c10, c11, c12, c13⟩, ⟨d10, d11, d12, d13⟩⟩ := HKP.out _ S1)
      | (go_at_call 66; (with_reducible refine (HDb.out _ S1).mono ?_); rintro e W2 ⟨rfl, T2⟩; have S2 := S1.trans T2; obtain ⟨⟨c20, c21, c22, c23⟩, ⟨d20, d21, d22, d23⟩⟩ := HKP.out _ S2))
    go_ret
    exact ⟨rfl, HT1.out.trans S2⟩
  | false =>
  rw [db] at HDb
  have HSb := Lib.hid (deep_slim 70 b db)
  clear db
  have hoa := fun W (h : Turned (fun _ => False) w1 W) => own74 a.depth a W (Nat.le_refl _) (HA1.out.turned0 h) HSa.out
  have hob := fun W (h : Turned (fun _ => False) w1 W) => own74 b.depth b W (Nat.le_refl _) (HB1.out.turned0 h) HSb.out
  rw [LT.val_eq a] at hoa
  rw [LT.val_eq b] at hob
  have HOA := Lib.hid hoa
  have HOB := Lib.hid hob
  clear hoa hob
  go_enter Try.func14, Try.ntmps14
  go_wp2_with (first
    | (go_at_call 65; refine (awake65 _).mono ?_; rintro e W0 ⟨rfl, T0⟩; rw [← HW.out] at T0; have S0 := T0; obtain ⟨⟨c00, c01, c02, c03⟩, ⟨d00, d01, d02, d03⟩⟩ := HKP.out _ S0)
    | (go_at_call 66; (with_reducible refine (HDa.out _ S0).mono ?_); rintro e W1 ⟨rfl, T1⟩; have S1 := S0.trans T1; obtain ⟨⟨c10, c11, c12, c13⟩, ⟨d10, d11, d12, d13⟩⟩ := HKP.out _ S1)
    | (go_at_call 66; (with_reducible refine (HDb.out _ S1).mono ?_); rintro e W2 ⟨rfl, T2⟩; have S2 := S1.trans T2; obtain ⟨⟨c20, c21, c22, c23⟩, ⟨d20, d21, d22, d23⟩⟩ := HKP.out _ S2))
  have S := S2
  clear S0 S1 S2 T0 T1 T2 c00 d00 c01 d01 c02 d02 c03 d03 c10 d10 c11 d11 c12 d12 c13 d13 c20 d20 c21 d21 c22 d22 c23 d23
  refine wp_region_k [22, 23, 24, 25, 7, 8] [1, 3, 4, 5, 6, 7] [(23, 1), (25, 3), (7, 4), (8, 5)] (fun d v => (match d with | 22 => v = .agg #[.int .i64 a.kind, .int .i64 a.n, .string a.name, .slice a.at_.1 a.args.length a.at_.2] | 24 => v = .agg #[.int .i64 b.kind, .int .i64 b.n, .string b.name, .slice b.at_.1 b.args.length b.at_.2] | _ => True : Prop)) (TwinS W2 a b) (by kernel_rfl) rfl (by kernel_rfl) (by kernel_rfl) (fun w h => TwinS.start h) (fun hs w w' h ht => h.turned0 ht) ?hs ?hQ
  case hs =>
    refine ⟨?s0, ?s1, ?s2, ?s3, ?s4, ?s5, ?s6, ?s7, trivial⟩
    case s0 =>
      refine fun hs hl => stepG_free [] [3] (by kernel_rfl) rfl ?_
      intro ac W hT hI hO
      have h : ac.tmps.getD 3 undef = .pointer (some ⟨w.heap.size, 0, none⟩) := hO 3 (by simp)
      show Brings Try.prog (fun v w' => Turned (fun _ => False) W w' ∧ v = .agg #[.int .i64 a.kind, .int .i64 a.n, .string a.name, .slice a.at_.1 a.args.length a.at_.2]) _
      obtain ⟨⟨x0, x1, x2, x3⟩, ⟨y0, y1, y2, y3⟩⟩ := HKP.out W (S.trans hT.turned)
      simp only [execOp, Act.eval, h]
      go_simp
      exact ⟨Turned.refl _ _, rfl⟩
    case s1 =>
      refine fun hs hno hl => stepG_free [22] [] (by kernel_rfl) rfl ?_
      intro ac W hT hI hO
      have h : ac.tmps.getD 22 undef = .agg #[.int .i64 a.kind, .int .i64 a.n, .string a.name, .slice a.at_.1 a.args.length a.at_.2] := hI 22 (by simp)
      show Brings Try.prog (fun v w' => TwinS W2 a b (hs ++ [(1, v)]) w') _
      simp only [execOp, Act.eval, h]
      go_simp
      show Calls Try.prog 74 _ W _
      (with_reducible refine (HOA.out W (S.trans hT.turned)).mono ?_)
      rintro e w' ⟨u, rfl, hb, hu, T'⟩
      exact ⟨_, rfl, hT.call1 hno (fun q => hl 6 8 q (by kernel_rfl)) T' hb hu⟩
    case s2 =>
      refine fun hs hl => stepG_free [] [4] (by kernel_rfl) rfl ?_
      intro ac W hT hI hO
      have h : ac.tmps.getD 4 undef = .pointer (some ⟨(w.heap.size + 1), 0, none⟩) := hO 4 (by simp)
      show Brings Try.prog (fun v w' => Turned (fun _ => False) W w' ∧ v = .agg #[.int .i64 b.kind, .int .i64 b.n, .string b.name, .slice b.at_.1 b.args.length b.at_.2]) _
      obtain ⟨⟨x0, x1, x2, x3⟩, ⟨y0, y1, y2, y3⟩⟩ := HKP.out W (S.trans hT.turned)
      simp only [execOp, Act.eval, h]
      go_simp
      exact ⟨Turned.refl _ _, rfl⟩
    case s3 =>
      refine fun hs hno hl => stepG_free [24] [] (by kernel_rfl) rfl ?_
      intro ac W hT hI hO
      have h : ac.tmps.getD 24 undef = .agg #[.int .i64 b.kind, .int .i64 b.n, .string b.name, .slice b.at_.1 b.args.length b.at_.2] := hI 24 (by simp)
      show Brings Try.prog (fun v w' => TwinS W2 a b (hs ++ [(3, v)]) w') _
      simp only [execOp, Act.eval, h]
      go_simp
      show Calls Try.prog 74 _ W _
      (with_reducible refine (HOB.out W (S.trans hT.turned)).mono ?_)
      rintro e w' ⟨u, rfl, hb, hu, T'⟩
      exact ⟨_, rfl, hT.call3 hno (fun q => hl 7 8 q (by kernel_rfl)) T' hb hu⟩
    case s4 =>
      refine fun hs hno hl => stepG_free [] [] (by kernel_rfl) rfl ?_
      intro ac W hT hI hO
      show Brings Try.prog (fun v w' => TwinS W2 a b (hs ++ [(4, v)]) w') _
      simp only [execOp, Act.eval]
      go_simp
      exact hT.lay4 hno (fun q => hl 6 8 q (by kernel_rfl))
    case s5 =>
      refine fun hs hno hl => stepG_free [] [] (by kernel_rfl) rfl ?_
      intro ac W hT hI hO
      show Brings Try.prog (fun v w' => TwinS W2 a b (hs ++ [(5, v)]) w') _
      simp only [execOp, Act.eval]
      go_simp
      exact hT.lay5 hno (fun q => hl 7 8 q (by kernel_rfl))
    case s6 =>
      refine fun hs hno hl => stepG_free [7, 23] [] (by kernel_rfl) rfl ?_
      intro ac W hT hI hO
      have h5 : (4, ac.tmps.getD 7 undef) ∈ hs := hI 7 (by simp)
      have h1 : (1, ac.tmps.getD 23 undef) ∈ hs := hI 23 (by simp)
      obtain ⟨g, e5, ⟨c0, c1, c2, c3, d0, d1, d2, d3⟩, f0, f1, f2, f3⟩ := hT.cells4 (.inl h5)
      obtain ⟨u, e1, _⟩ := hT.one.call _ h1
      rw [LT.val_eq] at e1
      show Brings Try.prog (fun v w' => TwinS W2 a b (hs ++ [(6, v)]) w') _
      simp only [execOp, Act.eval, e5, e1]
      go_simp
      rw [e5] at h5
      rw [e1] at h1
      exact hT.store6 hno h5 h1
    case s7 =>
      refine fun hs hno hl => stepG_free [8, 25] [] (by kernel_rfl) rfl ?_
      intro ac W hT hI hO
      have h5 : (5, ac.tmps.getD 8 undef) ∈ hs := hI 8 (by simp)
      have h1 : (3, ac.tmps.getD 25 undef) ∈ hs := hI 25 (by simp)
      obtain ⟨g, e5, ⟨c0, c1, c2, c3, d0, d1, d2, d3⟩, f0, f1, f2, f3⟩ := hT.cells4 (.inr h5)
      obtain ⟨u, e1, _⟩ := hT.two.call _ h1
      rw [LT.val_eq] at e1
      show Brings Try.prog (fun v w' => TwinS W2 a b (hs ++ [(7, v)]) w') _
      simp only [execOp, Act.eval, e5, e1]
      go_simp
      rw [e5] at h5
      rw [e1] at h1
      exact hT.store7 hno h5 h1
  case hQ =>
    intro hs vq w4 hall huniq hR hV
    obtain ⟨x, y, gx, gy, q5, q6, hxb, hyb, n1, n2, n3, bx, bby, ix, iy⟩ := hR.done hall (hV 7 (by simp)) (hV 8 (by simp))
    have S4 := S.trans hR.turned
    simp only [List.foldl_cons, List.foldl_nil, List.setIfInBounds_toArray, List.set_cons_zero, List.set_cons_succ, q5, q6]
    clear hV q5 q6 hall huniq hR hs S
    have iax := HA1.out.turned0 S4
    have ibx := HB1.out.turned0 S4
    have ix := ix.mono (q := fun _ => True) (fun _ _ _ => trivial)
    have iy := iy.mono (q := fun _ => True) (fun _ _ _ => trivial)
    have HK : Hid (∀ W, Turned (fun _ => False) w4 W → ((W.cell? ⟨w.heap.size, 0, none⟩ = some (.int .i64 a.kind) ∧ W.cell? ⟨w.heap.size, 1, none⟩ = some (.int .i64 a.n) ∧ W.cell? ⟨w.heap.size, 2, none⟩ = some (.string a.name) ∧ W.cell? ⟨w.heap.size, 3, none⟩ = some (.slice a.at_.1 a.args.length a.at_.2)) ∧ (W.cell? ⟨w.heap.size + 1, 0, none⟩ = some (.int .i64 b.kind) ∧ W.cell? ⟨w.heap.size + 1, 1, none⟩ = some (.int .i64 b.n) ∧ W.cell? ⟨w.heap.size + 1, 2, none⟩ = some (.string b.name) ∧ W.cell? ⟨w.heap.size + 1, 3, none⟩ = some (.slice b.at_.1 b.args.length b.at_.2))) ∧ (W.cell? ⟨gx, 0, none⟩ = some (.int .i64 x.kind) ∧ W.cell? ⟨gx, 1, none⟩ = some (.int .i64 x.n) ∧ W.cell? ⟨gx, 2, none⟩ = some (.string x.name) ∧ W.cell? ⟨gx, 3, none⟩ = some (.slice x.at_.1 x.args.length x.at_.2)) ∧ (W.cell? ⟨gy, 0, none⟩ = some (.int .i64 y.kind) ∧ W.cell? ⟨gy, 1, none⟩ = some (.int .i64 y.n) ∧ W.cell? ⟨gy, 2, none⟩ = some (.string y.name) ∧ W.cell? ⟨gy, 3, none⟩ = some (.slice y.at_.1 y.args.length y.at_.2))) := fun W h => ⟨HKP.out W (S4.trans h), fourOf ((h.block _ (Array.getElem?_eq_some_iff.1 bx).1 (fun f => f)).trans bx), fourOf ((h.block _ (Array.getElem?_eq_some_iff.1 bby).1 (fun f => f)).trans bby)⟩
    have hgx := fun W (h : Turned (fun _ => False) w4 W) => rGood45 (ix.turned0 h)
    have hgy := fun W (h : Turned (fun _ => False) w4 W) => rGood45 (iy.turned0 h)
    have hta := fun W (h : Turned (fun _ => False) w4 W) => test76 op (iax.turned0 h) (ibx.turned0 h) HSa.out HSb.out
    have htx := fun W (h : Turned (fun _ => False) w4 W) => test77 op (ix.turned0 h) (iy.turned0 h) (slim_eq' hxb.symm HSa.out) (slim_eq' hyb.symm HSb.out)
    have hcx := fun (g1 : goodB x = true) (g2 : goodB y = true) W (h : Turned (fun _ => False) w4 W) => rCmp75 x.depth x y W (Nat.le_refl _) (ix.turned0 h) (iy.turned0 h) g1 g2
    have hca := fun (g1 : goodB a = true) (g2 : goodB b = true) W (h : Turned (fun _ => False) w4 W) => cmp68 (iax.turned0 h) (ibx.turned0 h) HSa.out HSb.out g1 g2
    have hcn := fun (hg : ¬ (goodB a = true ∧ goodB b = true)) W (h : Turned (fun _ => False) w4 W) => cmpN68 (iax.turned0 h) (ibx.turned0 h) HSa.out HSb.out hg
    have hcxy : Tm.cmp x y = Tm.cmp a b := by rw [← Tm.cmp_bare x y, hxb, hyb, Tm.cmp_bare]
    rw [hcxy] at hcx
    rw [testR_eq hxb hyb] at htx
    have egx := goodB_eq hxb
    have egy := goodB_eq hyb
    rw [egx] at hgx hcx
    rw [egy] at hgy hcx
    rw [LT.val_eq x] at hgx htx hcx
    rw [LT.val_eq y] at hgy htx hcx
    rw [LT.val_eq a] at hta hca hcn
    rw [LT.val_eq b] at hta hca hcn
    obtain ⟨PP, hPP⟩ : ∃ z, z = (testR op a b).1 := ⟨_, rfl⟩
    obtain ⟨EE, hEE⟩ : ∃ z, z = (testR op a b).2 := ⟨_, rfl⟩
    obtain ⟨c, hc⟩ : ∃ z, z = Tm.cmp a b := ⟨_, rfl⟩
    rw [← hPP, ← hEE] at hta htx
    rw [← hc] at hcx hca
    have HTA := Lib.hid hta
    have HTX := Lib.hid htx
    have HS4 := Lib.hid S4
    clear hta htx hPP hEE hc hcxy egx egy hxb hyb n1 n2 n3 bx bby ix iy iax ibx S4
    cases ga : goodB a with
    | false =>
      have hcn := hcn (by rw [ga]; simp)
      rw [ga] at hgx
      have HGX := Lib.hid hgx
      have HCA := Lib.hid hcn
      clear hgx hgy hcx hca hcn ga
      obtain ⟨⟨⟨a40, a41, a42, a43⟩, ⟨b40, b41, b42, b43⟩⟩, ⟨x40, x41, x42, x43⟩, ⟨y40, y41, y42, y43⟩⟩ := HK.out w4 (Turned.refl _ w4)
      go_wp2_with (first
        | (go_at_call 45; (with_reducible refine (HGX.out _ (Turned.refl _ w4)).mono ?_); rintro e w5 ⟨rfl, T5⟩; have U5 := Turned.trans (Turned.refl _ w4) T5; obtain ⟨⟨⟨a50, a51, a52, a53⟩, ⟨b50, b51, b52, b53⟩⟩, ⟨x50, x51, x52, x53⟩, ⟨y50, y51, y52, y53⟩⟩ := HK.out _ U5)
        | (go_at_call 76; (with_reducible refine (HTA.out _ U5).mono ?_); rintro e w6 ⟨rfl, T6⟩; have U6 := Turned.trans U5 T6; obtain ⟨⟨⟨a60, a61, a62, a63⟩, ⟨b60, b61, b62, b63⟩⟩, ⟨x60, x61, x62, x63⟩, ⟨y60, y61, y62, y63⟩⟩ := HK.out _ U6)
        | (go_at_call 77; (with_reducible refine (HTX.out _ U6).mono ?_); rintro e w7 ⟨rfl, T7⟩; have U7 := Turned.trans U6 T7; obtain ⟨⟨⟨a70, a71, a72, a73⟩, ⟨b70, b71, b72, b73⟩⟩, ⟨x70, x71, x72, x73⟩, ⟨y70, y71, y72, y73⟩⟩ := HK.out _ U7)
        | (go_at_call 68; (with_reducible refine (HCA.out _ U7).mono ?_); rintro e w8 ⟨rfl, T8⟩; have U8 := Turned.trans U7 T8; obtain ⟨⟨⟨a80, a81, a82, a83⟩, ⟨b80, b81, b82, b83⟩⟩, ⟨x80, x81, x82, x83⟩, ⟨y80, y81, y82, y83⟩⟩ := HK.out _ U8))
      all_goals try (exfalso; contradiction)
      go_ret
      exact ⟨rfl, HT1.out.trans (HS4.out.trans U8)⟩
    | true =>
    rw [ga] at hgx
    have HGX := Lib.hid hgx
    cases gb : goodB b with
    | false =>
      have hcn := hcn (by rw [gb]; simp)
      rw [gb] at hgy
      have HGY := Lib.hid hgy
      have HCA := Lib.hid hcn
      clear hgx hgy hcx hca hcn ga gb
      obtain ⟨⟨⟨a40, a41, a42, a43⟩, ⟨b40, b41, b42, b43⟩⟩, ⟨x40, x41, x42, x43⟩, ⟨y40, y41, y42, y43⟩⟩ := HK.out w4 (Turned.refl _ w4)
      go_wp2_with (first
        | (go_at_call 45; (with_reducible refine (HGX.out _ (Turned.refl _ w4)).mono ?_); rintro e w5 ⟨rfl, T5⟩; have U5 := Turned.trans (Turned.refl _ w4) T5; obtain ⟨⟨⟨a50, a51, a52, a53⟩, ⟨b50, b51, b52, b53⟩⟩, ⟨x50, x51, x52, x53⟩, ⟨y50, y51, y52, y53⟩⟩ := HK.out _ U5)
        | (go_at_call 45; (with_reducible refine (HGY.out _ U5).mono ?_); rintro e w6 ⟨rfl, T6⟩; have U6 := Turned.trans U5 T6; obtain ⟨⟨⟨a60, a61, a62, a63⟩, ⟨b60, b61, b62, b63⟩⟩, ⟨x60, x61, x62, x63⟩, ⟨y60, y61, y62, y63⟩⟩ := HK.out _ U6)
        | (go_at_call 76; (with_reducible refine (HTA.out _ U6).mono ?_); rintro e w7 ⟨rfl, T7⟩; have U7 := Turned.trans U6 T7; obtain ⟨⟨⟨a70, a71, a72, a73⟩, ⟨b70, b71, b72, b73⟩⟩, ⟨x70, x71, x72, x73⟩, ⟨y70, y71, y72, y73⟩⟩ := HK.out _ U7)
        | (go_at_call 77; (with_reducible refine (HTX.out _ U7).mono ?_); rintro e w8 ⟨rfl, T8⟩; have U8 := Turned.trans U7 T8; obtain ⟨⟨⟨a80, a81, a82, a83⟩, ⟨b80, b81, b82, b83⟩⟩, ⟨x80, x81, x82, x83⟩, ⟨y80, y81, y82, y83⟩⟩ := HK.out _ U8)
        | (go_at_call 68; (with_reducible refine (HCA.out _ U8).mono ?_); rintro e w9 ⟨rfl, T9⟩; have U9 := Turned.trans U8 T9; obtain ⟨⟨⟨a90, a91, a92, a93⟩, ⟨b90, b91, b92, b93⟩⟩, ⟨x90, x91, x92, x93⟩, ⟨y90, y91, y92, y93⟩⟩ := HK.out _ U9))
      all_goals try (exfalso; contradiction)
      go_ret
      exact ⟨rfl, HT1.out.trans (HS4.out.trans U9)⟩
    | true =>
      have hcx := hcx ga gb
      have hca := hca ga gb
      rw [gb] at hgy
      have HGY := Lib.hid hgy
      have HCX := Lib.hid hcx
      have HCA := Lib.hid hca
      clear hgx hgy hcx hca hcn ga gb
      obtain ⟨⟨⟨a40, a41, a42, a43⟩, ⟨b40, b41, b42, b43⟩⟩, ⟨x40, x41, x42, x43⟩, ⟨y40, y41, y42, y43⟩⟩ := HK.out w4 (Turned.refl _ w4)
      go_wp2_with (first
        | (go_at_call 45; (with_reducible refine (HGX.out _ (Turned.refl _ w4)).mono ?_); rintro e w5 ⟨rfl, T5⟩; have U5 := Turned.trans (Turned.refl _ w4) T5; obtain ⟨⟨⟨a50, a51, a52, a53⟩, ⟨b50, b51, b52, b53⟩⟩, ⟨x50, x51, x52, x53⟩, ⟨y50, y51, y52, y53⟩⟩ := HK.out _ U5)
        | (go_at_call 45; (with_reducible refine (HGY.out _ U5).mono ?_); rintro e w6 ⟨rfl, T6⟩; have U6 := Turned.trans U5 T6; obtain ⟨⟨⟨a60, a61, a62, a63⟩, ⟨b60, b61, b62, b63⟩⟩, ⟨x60, x61, x62, x63⟩, ⟨y60, y61, y62, y63⟩⟩ := HK.out _ U6)
        | (go_at_call 75; (with_reducible refine (HCX.out _ U6).mono ?_); rintro e w7 ⟨rfl, T7⟩; have U7 := Turned.trans U6 T7; obtain ⟨⟨⟨a70, a71, a72, a73⟩, ⟨b70, b71, b72, b73⟩⟩, ⟨x70, x71, x72, x73⟩, ⟨y70, y71, y72, y73⟩⟩ := HK.out _ U7)
        | (go_at_call 76; (with_reducible refine (HTA.out _ U7).mono ?_); rintro e w8 ⟨rfl, T8⟩; have U8 := Turned.trans U7 T8; obtain ⟨⟨⟨a80, a81, a82, a83⟩, ⟨b80, b81, b82, b83⟩⟩, ⟨x80, x81, x82, x83⟩, ⟨y80, y81, y82, y83⟩⟩ := HK.out _ U8)
        | (go_at_call 77; (with_reducible refine (HTX.out _ U8).mono ?_); rintro e w9 ⟨rfl, T9⟩; have U9 := Turned.trans U8 T9; obtain ⟨⟨⟨a90, a91, a92, a93⟩, ⟨b90, b91, b92, b93⟩⟩, ⟨x90, x91, x92, x93⟩, ⟨y90, y91, y92, y93⟩⟩ := HK.out _ U9)
        | (go_at_call 68; (with_reducible refine (HCA.out _ U9).mono ?_); rintro e w10 ⟨rfl, T10⟩; have U10 := Turned.trans U9 T10; obtain ⟨⟨⟨a100, a101, a102, a103⟩, ⟨b100, b101, b102, b103⟩⟩, ⟨x100, x101, x102, x103⟩, ⟨y100, y101, y102, y103⟩⟩ := HK.out _ U10))
      all_goals try (exfalso; contradiction)
      go_ret
      exact ⟨rfl, HT1.out.trans (HS4.out.trans U10)⟩
end Go.Proofs.Ytoihjobdfjajfaa
