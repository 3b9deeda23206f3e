/- order.Key; awake of chapter 10. -/
import Derived.Test.YtoihjobdfjajfaaCmp4
import Derived.Test.YtoihjobdfjajfaaAw7
namespace Go.Proofs.Ytoihjobdfjajfaa
set_option linter.unusedVariables false
set_option linter.unusedSimpArgs false
open Go.RowKit
set_option maxHeartbeats 800000 in
theorem key67 {p : Nat → Prop} {t : LT} {w : World} (ht : t.In p w) :
    Calls Try.prog 67 #[t.val] w fun e w' => e = .returned (.tuple #[.int .i64 (Tm.place t), .string t.name, .int .i64 t.args.length]) ∧ Turned (fun _ => False) w w' := by
  have T1 := fun o => (Turned.refl (fun _ => False) w).alloc o
  have hp := fun W (h : Turned (fun _ => False) (w.alloc (.cells #[.int .i64 t.kind, .int .i64 t.n, .string t.name, .slice t.at_.1 t.args.length t.at_.2] 27)) W) => place134 (ht.turned0 ((T1 _).trans h))
  have hkp := fun W (h : Turned (fun _ => False) (w.alloc (.cells #[.int .i64 t.kind, .int .i64 t.n, .string t.name, .slice t.at_.1 t.args.length t.at_.2] 27)) W) => cells4 (box4 h).1
  have hl := ht.len
  have hal : t.args.length ≤ 9223372036854775807 := by have := hl.1; have := hl.2.1; unfold maxLen at this; omega
  rw [LT.val_eq] at hp ⊢
  have HP := Lib.hid hp
  have HKP := Lib.hid hkp
  clear hp hkp hl ht
  go_enter Try.func67, Try.ntmps67
  go_wp2_with fail
  refine wp_region_hs [5, 6, 7, 8, 9, 10, 11, 2, 3, 4] [] [0, 0, 0, 0, 0, 0, 0, 0, 0, 0] [] (fun d v => (match d with | 5 => v = .agg #[.int .i64 t.kind, .int .i64 t.n, .string t.name, .slice t.at_.1 t.args.length t.at_.2] | 6 => v = .int .i64 (Tm.place t) | 7 => v = .pointer (some ⟨w.heap.size, 2, none⟩) | 8 => v = .string t.name | 9 => v = .pointer (some ⟨w.heap.size, 3, none⟩) | 10 => v = .slice t.at_.1 t.args.length t.at_.2 | 11 => v = .int .i64 (t.args.length : Int) | 2 => v = .int .i64 (Tm.place t) | 3 => v = .string t.name | 4 => v = .int .i64 (t.args.length : Int) | _ => True : Prop)) (fun _ W => Turned (fun _ => False) (w.alloc (.cells #[.int .i64 t.kind, .int .i64 t.n, .string t.name, .slice t.at_.1 t.args.length t.at_.2] 27)) W) (by kernel_rfl) rfl (by kernel_rfl) (by kernel_rfl) (by kernel_rfl) (by kernel_rfl) (fun _ h => h) (fun _ _ _ h ht => h.trans ht) ?hs ?hQ
  case hs =>
    refine ⟨?s0, ?s1, ?s2, ?s3, ?s4, ?s5, ?s6, ?s7, ?s8, ?s9, trivial⟩
    case s0 =>
      refine fun hs hle => stepG_free [] [1] (by kernel_rfl) rfl ?_
      · intro ac W hT hI hO
        have h1 : ac.tmps.getD 1 undef = .pointer (some ⟨w.heap.size, 0, none⟩) := hO 1 (by simp)
        show Brings Try.prog (fun v w' => Turned (fun _ => False) W w' ∧ v = .agg #[.int .i64 t.kind, .int .i64 t.n, .string t.name, .slice t.at_.1 t.args.length t.at_.2]) _
        obtain ⟨c0, c1, c2, c3, _⟩ := HKP.out W hT
        simp only [execOp, Act.eval, h1]
        go_simp
        exact ⟨Turned.refl _ _, rfl⟩
    case s1 =>
      refine fun hs hle => stepG_free [5] [] (by kernel_rfl) rfl ?_
      · intro ac W hT hI hO
        have h5 : ac.tmps.getD 5 undef = .agg #[.int .i64 t.kind, .int .i64 t.n, .string t.name, .slice t.at_.1 t.args.length t.at_.2] := hI 5 (by simp)
        show Brings Try.prog (fun v w' => Turned (fun _ => False) W w' ∧ v = .int .i64 (Tm.place t)) _
        simp only [execOp, Act.eval, h5]
        go_simp
        show Calls Try.prog 134 _ W _
        (with_reducible refine (HP.out W hT).mono ?_)
        rintro e w' ⟨rfl, T'⟩
        exact ⟨_, rfl, T', rfl⟩
    case s2 =>
      refine fun hs hle => stepG_free [] [1] (by kernel_rfl) rfl ?_
      · intro ac W hT hI hO
        have h1 : ac.tmps.getD 1 undef = .pointer (some ⟨w.heap.size, 0, none⟩) := hO 1 (by simp)
        show Brings Try.prog (fun v w' => Turned (fun _ => False) W w' ∧ v = .pointer (some ⟨w.heap.size, 2, none⟩)) _
        simp only [execOp, Act.eval, h1]
        go_simp
        try exact ⟨Turned.refl _ _, rfl⟩
    case s3 =>
      refine fun hs hle => stepG_free [7] [] (by kernel_rfl) rfl ?_
      · intro ac W hT hI hO
        have h7 : ac.tmps.getD 7 undef = .pointer (some ⟨w.heap.size, 2, none⟩) := hI 7 (by simp)
        show Brings Try.prog (fun v w' => Turned (fun _ => False) W w' ∧ v = .string t.name) _
        obtain ⟨c0, c1, c2, c3, _⟩ := HKP.out W hT
        simp only [execOp, Act.eval, h7]
        go_simp
        exact ⟨Turned.refl _ _, rfl⟩
    case s4 =>
      refine fun hs hle => stepG_free [] [1] (by kernel_rfl) rfl ?_
      · intro ac W hT hI hO
        have h1 : ac.tmps.getD 1 undef = .pointer (some ⟨w.heap.size, 0, none⟩) := hO 1 (by simp)
        show Brings Try.prog (fun v w' => Turned (fun _ => False) W w' ∧ v = .pointer (some ⟨w.heap.size, 3, none⟩)) _
        simp only [execOp, Act.eval, h1]
        go_simp
        try exact ⟨Turned.refl _ _, rfl⟩
    case s5 =>
      refine fun hs hle => stepG_free [9] [] (by kernel_rfl) rfl ?_
      · intro ac W hT hI hO
        have h9 : ac.tmps.getD 9 undef = .pointer (some ⟨w.heap.size, 3, none⟩) := hI 9 (by simp)
        show Brings Try.prog (fun v w' => Turned (fun _ => False) W w' ∧ v = .slice t.at_.1 t.args.length t.at_.2) _
        obtain ⟨c0, c1, c2, c3, _⟩ := HKP.out W hT
        simp only [execOp, Act.eval, h9]
        go_simp
        exact ⟨Turned.refl _ _, rfl⟩
    case s6 =>
      refine fun hs hle => stepG_free [10] [] (by kernel_rfl) rfl ?_
      · intro ac W hT hI hO
        have h10 : ac.tmps.getD 10 undef = .slice t.at_.1 t.args.length t.at_.2 := hI 10 (by simp)
        show Brings Try.prog (fun v w' => Turned (fun _ => False) W w' ∧ v = .int .i64 (t.args.length : Int)) _
        simp only [execOp, Act.eval, h10]
        go_simp
        try exact ⟨Turned.refl _ _, rfl⟩
    case s7 =>
      refine fun hs hle => stepG_free [6] [] (by kernel_rfl) rfl ?_
      · intro ac W hT hI hO
        have h6 : ac.tmps.getD 6 undef = .int .i64 (Tm.place t) := hI 6 (by simp)
        show Brings Try.prog (fun v w' => Turned (fun _ => False) W w' ∧ v = .int .i64 (Tm.place t)) _
        simp only [execOp, Act.eval, h6]
        go_simp
        try exact ⟨Turned.refl _ _, rfl⟩
    case s8 =>
      refine fun hs hle => stepG_free [8] [] (by kernel_rfl) rfl ?_
      · intro ac W hT hI hO
        have h8 : ac.tmps.getD 8 undef = .string t.name := hI 8 (by simp)
        show Brings Try.prog (fun v w' => Turned (fun _ => False) W w' ∧ v = .string t.name) _
        simp only [execOp, Act.eval, h8]
        go_simp
        try exact ⟨Turned.refl _ _, rfl⟩
    case s9 =>
      refine fun hs hle => stepG_free [11] [] (by kernel_rfl) rfl ?_
      · intro ac W hT hI hO
        have h11 : ac.tmps.getD 11 undef = .int .i64 (t.args.length : Int) := hI 11 (by simp)
        show Brings Try.prog (fun v w' => Turned (fun _ => False) W w' ∧ v = .int .i64 (t.args.length : Int)) _
        simp only [execOp, Act.eval, h11]
        go_simp
        try exact ⟨Turned.refl _ _, rfl⟩
  case hQ =>
    intro hs vs w2 hlen T2 hV
    have q2 : vs 2 = .int .i64 (Tm.place t) := hV 2 (by simp)
    have q3 : vs 3 = .string t.name := hV 3 (by simp)
    have q4 : vs 4 = .int .i64 (t.args.length : Int) := hV 4 (by simp)
    simp only [List.foldl_cons, List.foldl_nil, List.setIfInBounds_toArray, List.set_cons_zero, List.set_cons_succ, q2, q3, q4]
    clear hV q2 q3 q4
    go_wp2_with fail
    go_ret3
    exact ⟨rfl, (T1 _).trans T2⟩

/-- The four. -/
def four (a : Option Addr) (n : Nat) : List LT := [leaf 0 0 ByteArray.empty, leaf 1 7 ByteArray.empty, leaf 2 0 ⟨#[97]⟩, .mk 2 0 ⟨#[102]⟩ (a, n) [leaf 2 0 ⟨#[97]⟩]]
theorem four_good (a : Option Addr) (n : Nat) : ∀ x ∈ four a n, goodB x = true ∧ slim x := by
  intro x hx
  simp only [four, List.mem_cons, List.not_mem_nil, or_false] at hx
  rcases hx with rfl | rfl | rfl | rfl
  · exact ⟨by kernel_rfl, fun y hy => by simp [leaf, Tm.flat, Tm.flats] at hy; subst hy; simp [Tm.args]⟩
  · exact ⟨by kernel_rfl, fun y hy => by simp [leaf, Tm.flat, Tm.flats] at hy; subst hy; simp [Tm.args]⟩
  · exact ⟨by kernel_rfl, fun y hy => by simp [leaf, Tm.flat, Tm.flats] at hy; subst hy; simp [Tm.args]⟩
  · exact ⟨by kernel_rfl, fun y hy => by simp [leaf, Tm.flat, Tm.flats] at hy; rcases hy with rfl | rfl <;> simp [Tm.args]⟩
theorem four_cmp (a : Option Addr) (n : Nat) : ∀ j x y, j < 3 → (four a n)[j]? = some x → (four a n)[j + 1]? = some y → Tm.cmp x y = -1 ∧ Tm.cmp y x = 1 := by
  intro j x y hj hx hy
  match j, hj with
  | 0, _ => simp [four] at hx hy; subst hx hy; exact ⟨by kernel_rfl, by kernel_rfl⟩
  | 1, _ => simp [four] at hx hy; subst hx hy; exact ⟨by kernel_rfl, by kernel_rfl⟩
  | 2, _ => simp [four] at hx hy; subst hx hy; exact ⟨by kernel_rfl, by kernel_rfl⟩
set_option maxRecDepth 100000 in
set_option maxHeartbeats 1600000 in
theorem awake65 (w : World) : Calls Try.prog 65 #[] w fun e w' => e = .returned (.bool true) ∧ Turned (fun _ => False) w w' := by
  go_enter Try.func65, Try.ntmps65
  go_wp2_with (first
    | (go_at_call 62; refine (varV 0 (i64_lit _ (by omega)) _).mono ?_; rintro e w1 ⟨rfl, i1, T1⟩)
    | (go_at_call 61; refine (intV 7 (i64_lit _ (by omega)) _).mono ?_; rintro e w2 ⟨rfl, i2, T2⟩)
    | (go_at_call 63; have := T3; refine (atomV ⟨#[97]⟩ (by unfold maxLen; decide) _).mono ?_; rintro e w4 ⟨rfl, i4, T4⟩)
    | (go_at_call 63; refine (atomV ⟨#[97]⟩ (by unfold maxLen; decide) _).mono ?_; rintro e w3 ⟨rfl, i3, T3⟩)
    | (go_at_call 37; refine (compV ⟨#[102]⟩ (by unfold maxLen; decide) 1 (by decide) rfl (sl_made (l := [leaf 2 0 ⟨#[97]⟩]) ⟨i4, trivial⟩ 1 (by decide) rfl _ rfl)).mono ?_; rintro e w5 ⟨a5, c5, rfl, i5, T5⟩))
  have T45 : Turned (fun _ => False) w4 w5 := ((Turned.refl _ w4).alloc _).trans T5
  have T0 : Turned (fun _ => False) w w5 := T1.trans (T2.trans (T3.trans (T4.trans T45)))
  have hsl := sl_made (w := w5) (l := four a5 c5) ⟨(((i1.turned0 T2).turned0 T3).turned0 T4).turned0 T45, ((i2.turned0 T3).turned0 T4).turned0 T45, (i3.turned0 T4).turned0 T45, i5, trivial⟩ 4 (by decide) rfl _ rfl
  have HSL := Lib.hid hsl
  have HT0 := Lib.hid (T0.alloc (.cells ((four a5 c5).flatMap LT.cells).toArray 27))
  clear hsl T0 T45 T1 T2 T3 T4 T5 i1 i2 i3 i4 i5 this
  replace HSL : Hid (LT.Sl (fun _ => True) (w5.alloc (.cells #[.int .i64 0, .int .i64 0, .string ByteArray.empty, .slice none 0 0, .int .i64 1, .int .i64 7, .string ByteArray.empty, .slice none 0 0, .int .i64 2, .int .i64 0, .string ⟨#[97]⟩, .slice none 0 0, .int .i64 2, .int .i64 0, .string ⟨#[102]⟩, .slice a5 1 c5] 27)) (some ⟨w5.heap.size, 0, none⟩) 4 (four a5 c5)) := HSL
  replace HT0 : Hid (Turned (fun _ => False) w (w5.alloc (.cells #[.int .i64 0, .int .i64 0, .string ByteArray.empty, .slice none 0 0, .int .i64 1, .int .i64 7, .string ByteArray.empty, .slice none 0 0, .int .i64 2, .int .i64 0, .string ⟨#[97]⟩, .slice none 0 0, .int .i64 2, .int .i64 0, .string ⟨#[102]⟩, .slice a5 1 c5] 27))) := HT0
  have HTB := And.intro HSL HT0
  clear HSL HT0
  revert HTB
  generalize w5.alloc (.cells #[.int .i64 0, .int .i64 0, .string ByteArray.empty, .slice none 0 0, .int .i64 1, .int .i64 7, .string ByteArray.empty, .slice none 0 0, .int .i64 2, .int .i64 0, .string ⟨#[97]⟩, .slice none 0 0, .int .i64 2, .int .i64 0, .string ⟨#[102]⟩, .slice a5 1 c5] 27) = w6
  generalize w5.heap.size = g
  intro HTB
  obtain ⟨HSL, HT0⟩ := HTB
  have hlen4 : Hid ((four a5 c5).length = 4) := rfl
  go_loopg [2] 3 (fun k i wr => ∃ j : Nat, Hid (j + k = 3) ∧ j ≤ 3 ∧ i = .int .i64 j ∧ Turned (fun _ => False) w6 wr)
  case atStart => exact ⟨0, Nat.zero_add _, Nat.zero_le _, rfl, Turned.refl _ _⟩
  case round =>
    obtain ⟨j, HG, hj, rfl, Tr⟩ := hrel
    have hslw := HSL.out.turned0 Tr
    by_cases hjl : j < 3
    · obtain ⟨x, hx⟩ : ∃ x, (four a5 c5)[j]? = some x := ⟨_, List.getElem?_eq_getElem (by rw [hlen4.out]; omega)⟩
      obtain ⟨y, hy⟩ : ∃ y, (four a5 c5)[j + 1]? = some y := ⟨_, List.getElem?_eq_getElem (by rw [hlen4.out]; omega)⟩
      have xin := (LT.ins_iff _).1 hslw.ins x (List.mem_of_getElem? hx)
      have yin := (LT.ins_iff _).1 hslw.ins y (List.mem_of_getElem? hy)
      obtain ⟨gx, sx⟩ := four_good a5 c5 x (List.mem_of_getElem? hx)
      obtain ⟨gy, sy⟩ := four_good a5 c5 y (List.mem_of_getElem? hy)
      obtain ⟨e1, e2⟩ := four_cmp a5 c5 j x y hjl hx hy
      obtain ⟨b1, o1, hb1, _, k0, k1, k2, k3⟩ := hslw.lies.cell hx
      obtain ⟨b2, o2, hb2, _, m0, m1, m2, m3⟩ := hslw.lies.cell hy
      injection hb1 with hb1; injection hb1 with hb1 ho1; subst hb1 ho1
      injection hb2 with hb2; injection hb2 with hb2 ho2; subst hb2 ho2
      simp only [Nat.zero_add] at k0 k1 k2 k3 m0 m1 m2 m3
      have hxy := fun W (h : Turned (fun _ => False) wr W) => cmp68 (xin.turned0 h) (yin.turned0 h) sx sy gx gy
      have hyx := fun W (h : Turned (fun _ => False) wr W) => cmp68 (yin.turned0 h) (xin.turned0 h) sy sx gy gx
      rw [e1, LT.val_eq x, LT.val_eq y] at hxy
      rw [e2, LT.val_eq x, LT.val_eq y] at hyx
      have hkp : ∀ W, Turned (fun _ => False) wr W → W.cell? ⟨g, j * 4, none⟩ = some (.int .i64 x.kind) ∧ W.cell? ⟨g, j * 4 + 1, none⟩ = some (.int .i64 x.n) ∧ W.cell? ⟨g, j * 4 + 2, none⟩ = some (.string x.name) ∧ W.cell? ⟨g, j * 4 + 3, none⟩ = some (.slice x.at_.1 x.args.length x.at_.2) ∧ W.cell? ⟨g, (j + 1) * 4, none⟩ = some (.int .i64 y.kind) ∧ W.cell? ⟨g, (j + 1) * 4 + 1, none⟩ = some (.int .i64 y.n) ∧ W.cell? ⟨g, (j + 1) * 4 + 2, none⟩ = some (.string y.name) ∧ W.cell? ⟨g, (j + 1) * 4 + 3, none⟩ = some (.slice y.at_.1 y.args.length y.at_.2) := fun W h => ⟨h.cell0 k0, h.cell0 k1, h.cell0 k2, h.cell0 k3, h.cell0 m0, h.cell0 m1, h.cell0 m2, h.cell0 m3⟩
      have HXY := Lib.hid hxy
      have HYX := Lib.hid hyx
      have HKP := Lib.hid hkp
      have z1 : (j : Int) + 1 < 4 := by omega
      have z2 : (j : Int) < 4 := by omega
      clear hxy hyx hkp xin yin gx sx gy sy e1 e2 hx hy k0 k1 k2 k3 m0 m1 m2 m3 hslw
      go_wp2_with fail
      obtain ⟨B27, HB27⟩ : ∃ B, Hid (B = ((-1 : Int) != (-1))) := ⟨_, rfl⟩
      obtain ⟨B39, HB39⟩ : ∃ B, Hid (B = ((1 : Int) != 1)) := ⟨_, rfl⟩
      obtain ⟨B40, HB40⟩ : ∃ B, Hid (B = (B27 || B39)) := ⟨_, rfl⟩
      refine wp_region_hs [17, 18, 19, 20, 21, 22, 23, 24, 25, 26, 27, 28, 29, 30, 31, 32, 33, 34, 35, 36, 37, 38, 39, 40] [] [0, 0, 0, 0, 0, 0, 0, 0, 0, 0, 0, 0, 0, 0, 0, 0, 0, 0, 0, 0, 0, 0, 0, 0] [] (fun d v => (match d with | 17 => v = .slice (some ⟨g, 0, none⟩) 4 4 | 18 => v = .int .i64 (j : Int) | 19 => v = .pointer (some ⟨g, j * 4, none⟩) | 20 => v = .agg #[.int .i64 x.kind, .int .i64 x.n, .string x.name, .slice x.at_.1 x.args.length x.at_.2] | 21 => v = .slice (some ⟨g, 0, none⟩) 4 4 | 22 => v = .int .i64 (j : Int) | 23 => v = .int .i64 ((j : Int) + 1) | 24 => v = .pointer (some ⟨g, (j + 1) * 4, none⟩) | 25 => v = .agg #[.int .i64 y.kind, .int .i64 y.n, .string y.name, .slice y.at_.1 y.args.length y.at_.2] | 26 => v = .int .i64 (-1 : Int) | 27 => v = .bool B27 | 28 => v = .bool B27 | 29 => v = bif (true && (B27 == false)) then .slice (some ⟨g, 0, none⟩) 4 4 else undef | 30 => v = bif (true && (B27 == false)) then .int .i64 (j : Int) else undef | 31 => v = bif (true && (B27 == false)) then .int .i64 ((j : Int) + 1) else undef | 32 => v = bif (true && (B27 == false)) then .pointer (some ⟨g, (j + 1) * 4, none⟩) else undef | 33 => v = bif (true && (B27 == false)) then .agg #[.int .i64 y.kind, .int .i64 y.n, .string y.name, .slice y.at_.1 y.args.length y.at_.2] else undef | 34 => v = bif (true && (B27 == false)) then .slice (some ⟨g, 0, none⟩) 4 4 else undef | 35 => v = bif (true && (B27 == false)) then .int .i64 (j : Int) else undef | 36 => v = bif (true && (B27 == false)) then .pointer (some ⟨g, j * 4, none⟩) else undef | 37 => v = bif (true && (B27 == false)) then .agg #[.int .i64 x.kind, .int .i64 x.n, .string x.name, .slice x.at_.1 x.args.length x.at_.2] else undef | 38 => v = bif (true && (B27 == false)) then .int .i64 (1 : Int) else undef | 39 => v = bif (true && (B27 == false)) then .bool B39 else undef | 40 => v = .bool B40 | _ => True : Prop)) (fun _ W => Turned (fun _ => False) wr W) (by kernel_rfl) rfl (by kernel_rfl) (by kernel_rfl) (by kernel_rfl) (by kernel_rfl) (fun _ h => h) (fun _ _ _ h ht => h.trans ht) ?hs ?hQ
      case hs =>
        refine ⟨?s0, ?s1, ?s2, ?s3, ?s4, ?s5, ?s6, ?s7, ?s8, ?s9, ?s10, ?s11, ?s12, ?s13, ?s14, ?s15, ?s16, ?s17, ?s18, ?s19, ?s20, ?s21, ?s22, ?s23, trivial⟩
        case s0 =>
          refine fun hs hle => stepG_free [] [1] (by kernel_rfl) rfl ?_
          · intro ac W hT hI hO
            have h1 : ac.tmps.getD 1 undef = .slice (some ⟨g, 0, none⟩) 4 4 := hO 1 (by simp)
            show Brings Try.prog (fun v w' => Turned (fun _ => False) W w' ∧ v = .slice (some ⟨g, 0, none⟩) 4 4) _
            simp only [execOp, Act.eval, h1]
            go_simp
            try exact ⟨Turned.refl _ _, rfl⟩
        case s1 =>
          refine fun hs hle => stepG_free [] [2] (by kernel_rfl) rfl ?_
          · intro ac W hT hI hO
            have h2 : ac.tmps.getD 2 undef = .int .i64 (j : Int) := hO 2 (by simp)
            show Brings Try.prog (fun v w' => Turned (fun _ => False) W w' ∧ v = .int .i64 (j : Int)) _
            simp only [execOp, Act.eval, h2]
            go_simp
            try exact ⟨Turned.refl _ _, rfl⟩
        case s2 =>
          refine fun hs hle => stepG_free [17, 18] [] (by kernel_rfl) rfl ?_
          · intro ac W hT hI hO
            have h17 : ac.tmps.getD 17 undef = .slice (some ⟨g, 0, none⟩) 4 4 := hI 17 (by simp)
            have h18 : ac.tmps.getD 18 undef = .int .i64 (j : Int) := hI 18 (by simp)
            show Brings Try.prog (fun v w' => Turned (fun _ => False) W w' ∧ v = .pointer (some ⟨g, j * 4, none⟩)) _
            simp only [execOp, Act.eval, h17, h18]
            go_simp
            try exact ⟨Turned.refl _ _, rfl⟩
        case s3 =>
          refine fun hs hle => stepG_free [19] [] (by kernel_rfl) rfl ?_
          · intro ac W hT hI hO
            have h19 : ac.tmps.getD 19 undef = .pointer (some ⟨g, j * 4, none⟩) := hI 19 (by simp)
            show Brings Try.prog (fun v w' => Turned (fun _ => False) W w' ∧ v = .agg #[.int .i64 x.kind, .int .i64 x.n, .string x.name, .slice x.at_.1 x.args.length x.at_.2]) _
            obtain ⟨x0, x1, x2, x3, y0, y1, y2, y3⟩ := HKP.out W hT
            simp only [execOp, Act.eval, h19]
            go_simp
            exact ⟨Turned.refl _ _, rfl⟩
        case s4 =>
          refine fun hs hle => stepG_free [] [1] (by kernel_rfl) rfl ?_
          · intro ac W hT hI hO
            have h1 : ac.tmps.getD 1 undef = .slice (some ⟨g, 0, none⟩) 4 4 := hO 1 (by simp)
            show Brings Try.prog (fun v w' => Turned (fun _ => False) W w' ∧ v = .slice (some ⟨g, 0, none⟩) 4 4) _
            simp only [execOp, Act.eval, h1]
            go_simp
            try exact ⟨Turned.refl _ _, rfl⟩
        case s5 =>
          refine fun hs hle => stepG_free [] [2] (by kernel_rfl) rfl ?_
          · intro ac W hT hI hO
            have h2 : ac.tmps.getD 2 undef = .int .i64 (j : Int) := hO 2 (by simp)
            show Brings Try.prog (fun v w' => Turned (fun _ => False) W w' ∧ v = .int .i64 (j : Int)) _
            simp only [execOp, Act.eval, h2]
            go_simp
            try exact ⟨Turned.refl _ _, rfl⟩
        case s6 =>
          refine fun hs hle => stepG_free [22] [] (by kernel_rfl) rfl ?_
          · intro ac W hT hI hO
            have h22 : ac.tmps.getD 22 undef = .int .i64 (j : Int) := hI 22 (by simp)
            show Brings Try.prog (fun v w' => Turned (fun _ => False) W w' ∧ v = .int .i64 ((j : Int) + 1)) _
            simp only [execOp, Act.eval, h22]
            go_simp
            try rw [wrapI (by omega) (by omega)]
            try exact ⟨Turned.refl _ _, rfl⟩
        case s7 =>
          refine fun hs hle => stepG_free [21, 23] [] (by kernel_rfl) rfl ?_
          · intro ac W hT hI hO
            have h21 : ac.tmps.getD 21 undef = .slice (some ⟨g, 0, none⟩) 4 4 := hI 21 (by simp)
            have h23 : ac.tmps.getD 23 undef = .int .i64 ((j : Int) + 1) := hI 23 (by simp)
            show Brings Try.prog (fun v w' => Turned (fun _ => False) W w' ∧ v = .pointer (some ⟨g, (j + 1) * 4, none⟩)) _
            simp only [execOp, Act.eval, h21, h23]
            go_simp
            try exact ⟨Turned.refl _ _, rfl⟩
        case s8 =>
          refine fun hs hle => stepG_free [24] [] (by kernel_rfl) rfl ?_
          · intro ac W hT hI hO
            have h24 : ac.tmps.getD 24 undef = .pointer (some ⟨g, (j + 1) * 4, none⟩) := hI 24 (by simp)
            show Brings Try.prog (fun v w' => Turned (fun _ => False) W w' ∧ v = .agg #[.int .i64 y.kind, .int .i64 y.n, .string y.name, .slice y.at_.1 y.args.length y.at_.2]) _
            obtain ⟨x0, x1, x2, x3, y0, y1, y2, y3⟩ := HKP.out W hT
            simp only [execOp, Act.eval, h24]
            go_simp
            exact ⟨Turned.refl _ _, rfl⟩
        case s9 =>
          refine fun hs hle => stepG_free [20, 25] [] (by kernel_rfl) rfl ?_
          · intro ac W hT hI hO
            have h20 : ac.tmps.getD 20 undef = .agg #[.int .i64 x.kind, .int .i64 x.n, .string x.name, .slice x.at_.1 x.args.length x.at_.2] := hI 20 (by simp)
            have h25 : ac.tmps.getD 25 undef = .agg #[.int .i64 y.kind, .int .i64 y.n, .string y.name, .slice y.at_.1 y.args.length y.at_.2] := hI 25 (by simp)
            show Brings Try.prog (fun v w' => Turned (fun _ => False) W w' ∧ v = .int .i64 (-1 : Int)) _
            simp only [execOp, Act.eval, h20, h25]
            go_simp
            show Calls Try.prog 68 _ W _
            (with_reducible refine (HXY.out W hT).mono ?_)
            rintro e w' ⟨rfl, T'⟩
            exact ⟨_, rfl, T', rfl⟩
        case s10 =>
          refine fun hs hle => stepG_free [26] [] (by kernel_rfl) rfl ?_
          · intro ac W hT hI hO
            have h26 : ac.tmps.getD 26 undef = .int .i64 (-1 : Int) := hI 26 (by simp)
            show Brings Try.prog (fun v w' => Turned (fun _ => False) W w' ∧ v = .bool B27) _
            rw [HB27.out]
            simp only [execOp, Act.eval, h26]
            go_simp
            try exact ⟨Turned.refl _ _, rfl⟩
        case s11 =>
          refine fun hs hle => stepG_free [27] [] (by kernel_rfl) rfl ?_
          · intro ac W hT hI hO
            have h27 : ac.tmps.getD 27 undef = .bool B27 := hI 27 (by simp)
            show Brings Try.prog (fun v w' => Turned (fun _ => False) W w' ∧ v = .bool B27) _
            simp only [execOp, Act.eval, h27]
            go_simp
            try exact ⟨Turned.refl _ _, rfl⟩
        case s12 =>
          refine fun hs hle => stepG_guard [28] [1] (by kernel_rfl) 11 false 28 rfl rfl (by simp) true B27 (fun _ _ h => h) (fun hc => ?_) (fun hc _ _ => ?_)
          rotate_left
          · refine ⟨Turned.refl _ _, ?_⟩
            show undef = bif (true && (B27 == false)) then _ else undef
            rw [hc]; rfl
          · intro ac W hT hI hO
            have h28 : ac.tmps.getD 28 undef = .bool B27 := hI 28 (by simp)
            have h1 : ac.tmps.getD 1 undef = .slice (some ⟨g, 0, none⟩) 4 4 := hO 1 (by simp)
            show Brings Try.prog (fun v w' => Turned (fun _ => False) W w' ∧ v = bif (true && (B27 == false)) then .slice (some ⟨g, 0, none⟩) 4 4 else undef) _
            rw [hc, cond_true]
            simp only [execOp, Act.eval, h28, h1]
            go_simp
            try exact ⟨Turned.refl _ _, rfl⟩
        case s13 =>
          refine fun hs hle => stepG_guard [28] [2] (by kernel_rfl) 11 false 28 rfl rfl (by simp) true B27 (fun _ _ h => h) (fun hc => ?_) (fun hc _ _ => ?_)
          rotate_left
          · refine ⟨Turned.refl _ _, ?_⟩
            show undef = bif (true && (B27 == false)) then _ else undef
            rw [hc]; rfl
          · intro ac W hT hI hO
            have h28 : ac.tmps.getD 28 undef = .bool B27 := hI 28 (by simp)
            have h2 : ac.tmps.getD 2 undef = .int .i64 (j : Int) := hO 2 (by simp)
            show Brings Try.prog (fun v w' => Turned (fun _ => False) W w' ∧ v = bif (true && (B27 == false)) then .int .i64 (j : Int) else undef) _
            rw [hc, cond_true]
            simp only [execOp, Act.eval, h28, h2]
            go_simp
            try exact ⟨Turned.refl _ _, rfl⟩
        case s14 =>
          refine fun hs hle => stepG_guard [30, 28] [] (by kernel_rfl) 11 false 28 rfl rfl (by simp) true B27 (fun _ _ h => h) (fun hc => ?_) (fun hc _ _ => ?_)
          rotate_left
          · refine ⟨Turned.refl _ _, ?_⟩
            show undef = bif (true && (B27 == false)) then _ else undef
            rw [hc]; rfl
          · intro ac W hT hI hO
            have h30 : ac.tmps.getD 30 undef = bif (true && (B27 == false)) then .int .i64 (j : Int) else undef := hI 30 (by simp)
            rw [hc, cond_true] at h30
            have h28 : ac.tmps.getD 28 undef = .bool B27 := hI 28 (by simp)
            show Brings Try.prog (fun v w' => Turned (fun _ => False) W w' ∧ v = bif (true && (B27 == false)) then .int .i64 ((j : Int) + 1) else undef) _
            rw [hc, cond_true]
            simp only [execOp, Act.eval, h30, h28]
            go_simp
            try rw [wrapI (by omega) (by omega)]
            try exact ⟨Turned.refl _ _, rfl⟩
        case s15 =>
          refine fun hs hle => stepG_guard [29, 31, 28] [] (by kernel_rfl) 11 false 28 rfl rfl (by simp) true B27 (fun _ _ h => h) (fun hc => ?_) (fun hc _ _ => ?_)
          rotate_left
          · refine ⟨Turned.refl _ _, ?_⟩
            show undef = bif (true && (B27 == false)) then _ else undef
            rw [hc]; rfl
          · intro ac W hT hI hO
            have h29 : ac.tmps.getD 29 undef = bif (true && (B27 == false)) then .slice (some ⟨g, 0, none⟩) 4 4 else undef := hI 29 (by simp)
            rw [hc, cond_true] at h29
            have h31 : ac.tmps.getD 31 undef = bif (true && (B27 == false)) then .int .i64 ((j : Int) + 1) else undef := hI 31 (by simp)
            rw [hc, cond_true] at h31
            have h28 : ac.tmps.getD 28 undef = .bool B27 := hI 28 (by simp)
            show Brings Try.prog (fun v w' => Turned (fun _ => False) W w' ∧ v = bif (true && (B27 == false)) then .pointer (some ⟨g, (j + 1) * 4, none⟩) else undef) _
            rw [hc, cond_true]
            simp only [execOp, Act.eval, h29, h31, h28]
            go_simp
            try exact ⟨Turned.refl _ _, rfl⟩
        case s16 =>
          refine fun hs hle => stepG_guard [32, 28] [] (by kernel_rfl) 11 false 28 rfl rfl (by simp) true B27 (fun _ _ h => h) (fun hc => ?_) (fun hc _ _ => ?_)
          rotate_left
          · refine ⟨Turned.refl _ _, ?_⟩
            show undef = bif (true && (B27 == false)) then _ else undef
            rw [hc]; rfl
          · intro ac W hT hI hO
            have h32 : ac.tmps.getD 32 undef = bif (true && (B27 == false)) then .pointer (some ⟨g, (j + 1) * 4, none⟩) else undef := hI 32 (by simp)
            rw [hc, cond_true] at h32
            have h28 : ac.tmps.getD 28 undef = .bool B27 := hI 28 (by simp)
            show Brings Try.prog (fun v w' => Turned (fun _ => False) W w' ∧ v = bif (true && (B27 == false)) then .agg #[.int .i64 y.kind, .int .i64 y.n, .string y.name, .slice y.at_.1 y.args.length y.at_.2] else undef) _
            rw [hc, cond_true]
            obtain ⟨x0, x1, x2, x3, y0, y1, y2, y3⟩ := HKP.out W hT
            simp only [execOp, Act.eval, h32, h28]
            go_simp
            exact ⟨Turned.refl _ _, rfl⟩
        case s17 =>
          refine fun hs hle => stepG_guard [28] [1] (by kernel_rfl) 11 false 28 rfl rfl (by simp) true B27 (fun _ _ h => h) (fun hc => ?_) (fun hc _ _ => ?_)
          rotate_left
          · refine ⟨Turned.refl _ _, ?_⟩
            show undef = bif (true && (B27 == false)) then _ else undef
            rw [hc]; rfl
          · intro ac W hT hI hO
            have h28 : ac.tmps.getD 28 undef = .bool B27 := hI 28 (by simp)
            have h1 : ac.tmps.getD 1 undef = .slice (some ⟨g, 0, none⟩) 4 4 := hO 1 (by simp)
            show Brings Try.prog (fun v w' => Turned (fun _ => False) W w' ∧ v = bif (true && (B27 == false)) then .slice (some ⟨g, 0, none⟩) 4 4 else undef) _
            rw [hc, cond_true]
            simp only [execOp, Act.eval, h28, h1]
            go_simp
            try exact ⟨Turned.refl _ _, rfl⟩
        case s18 =>
          refine fun hs hle => stepG_guard [28] [2] (by kernel_rfl) 11 false 28 rfl rfl (by simp) true B27 (fun _ _ h => h) (fun hc => ?_) (fun hc _ _ => ?_)
          rotate_left
          · refine ⟨Turned.refl _ _, ?_⟩
            show undef = bif (true && (B27 == false)) then _ else undef
            rw [hc]; rfl
          · intro ac W hT hI hO
            have h28 : ac.tmps.getD 28 undef = .bool B27 := hI 28 (by simp)
            have h2 : ac.tmps.getD 2 undef = .int .i64 (j : Int) := hO 2 (by simp)
            show Brings Try.prog (fun v w' => Turned (fun _ => False) W w' ∧ v = bif (true && (B27 == false)) then .int .i64 (j : Int) else undef) _
            rw [hc, cond_true]
            simp only [execOp, Act.eval, h28, h2]
            go_simp
            try exact ⟨Turned.refl _ _, rfl⟩
        case s19 =>
          refine fun hs hle => stepG_guard [34, 35, 28] [] (by kernel_rfl) 11 false 28 rfl rfl (by simp) true B27 (fun _ _ h => h) (fun hc => ?_) (fun hc _ _ => ?_)
          rotate_left
          · refine ⟨Turned.refl _ _, ?_⟩
            show undef = bif (true && (B27 == false)) then _ else undef
            rw [hc]; rfl
          · intro ac W hT hI hO
            have h34 : ac.tmps.getD 34 undef = bif (true && (B27 == false)) then .slice (some ⟨g, 0, none⟩) 4 4 else undef := hI 34 (by simp)
            rw [hc, cond_true] at h34
            have h35 : ac.tmps.getD 35 undef = bif (true && (B27 == false)) then .int .i64 (j : Int) else undef := hI 35 (by simp)
            rw [hc, cond_true] at h35
            have h28 : ac.tmps.getD 28 undef = .bool B27 := hI 28 (by simp)
            show Brings Try.prog (fun v w' => Turned (fun _ => False) W w' ∧ v = bif (true && (B27 == false)) then .pointer (some ⟨g, j * 4, none⟩) else undef) _
            rw [hc, cond_true]
            simp only [execOp, Act.eval, h34, h35, h28]
            go_simp
            try exact ⟨Turned.refl _ _, rfl⟩
        case s20 =>
          refine fun hs hle => stepG_guard [36, 28] [] (by kernel_rfl) 11 false 28 rfl rfl (by simp) true B27 (fun _ _ h => h) (fun hc => ?_) (fun hc _ _ => ?_)
          rotate_left
          · refine ⟨Turned.refl _ _, ?_⟩
            show undef = bif (true && (B27 == false)) then _ else undef
            rw [hc]; rfl
          · intro ac W hT hI hO
            have h36 : ac.tmps.getD 36 undef = bif (true && (B27 == false)) then .pointer (some ⟨g, j * 4, none⟩) else undef := hI 36 (by simp)
            rw [hc, cond_true] at h36
            have h28 : ac.tmps.getD 28 undef = .bool B27 := hI 28 (by simp)
            show Brings Try.prog (fun v w' => Turned (fun _ => False) W w' ∧ v = bif (true && (B27 == false)) then .agg #[.int .i64 x.kind, .int .i64 x.n, .string x.name, .slice x.at_.1 x.args.length x.at_.2] else undef) _
            rw [hc, cond_true]
            obtain ⟨x0, x1, x2, x3, y0, y1, y2, y3⟩ := HKP.out W hT
            simp only [execOp, Act.eval, h36, h28]
            go_simp
            exact ⟨Turned.refl _ _, rfl⟩
        case s21 =>
          refine fun hs hle => stepG_guard [33, 37, 28] [] (by kernel_rfl) 11 false 28 rfl rfl (by simp) true B27 (fun _ _ h => h) (fun hc => ?_) (fun hc _ _ => ?_)
          rotate_left
          · refine ⟨Turned.refl _ _, ?_⟩
            show undef = bif (true && (B27 == false)) then _ else undef
            rw [hc]; rfl
          · intro ac W hT hI hO
            have h33 : ac.tmps.getD 33 undef = bif (true && (B27 == false)) then .agg #[.int .i64 y.kind, .int .i64 y.n, .string y.name, .slice y.at_.1 y.args.length y.at_.2] else undef := hI 33 (by simp)
            rw [hc, cond_true] at h33
            have h37 : ac.tmps.getD 37 undef = bif (true && (B27 == false)) then .agg #[.int .i64 x.kind, .int .i64 x.n, .string x.name, .slice x.at_.1 x.args.length x.at_.2] else undef := hI 37 (by simp)
            rw [hc, cond_true] at h37
            have h28 : ac.tmps.getD 28 undef = .bool B27 := hI 28 (by simp)
            show Brings Try.prog (fun v w' => Turned (fun _ => False) W w' ∧ v = bif (true && (B27 == false)) then .int .i64 (1 : Int) else undef) _
            rw [hc, cond_true]
            simp only [execOp, Act.eval, h33, h37, h28]
            go_simp
            show Calls Try.prog 68 _ W _
            (with_reducible refine (HYX.out W hT).mono ?_)
            rintro e w' ⟨rfl, T'⟩
            exact ⟨_, rfl, T', rfl⟩
        case s22 =>
          refine fun hs hle => stepG_guard [38, 28] [] (by kernel_rfl) 11 false 28 rfl rfl (by simp) true B27 (fun _ _ h => h) (fun hc => ?_) (fun hc _ _ => ?_)
          rotate_left
          · refine ⟨Turned.refl _ _, ?_⟩
            show undef = bif (true && (B27 == false)) then _ else undef
            rw [hc]; rfl
          · intro ac W hT hI hO
            have h38 : ac.tmps.getD 38 undef = bif (true && (B27 == false)) then .int .i64 (1 : Int) else undef := hI 38 (by simp)
            rw [hc, cond_true] at h38
            have h28 : ac.tmps.getD 28 undef = .bool B27 := hI 28 (by simp)
            show Brings Try.prog (fun v w' => Turned (fun _ => False) W w' ∧ v = bif (true && (B27 == false)) then .bool B39 else undef) _
            rw [hc, cond_true]
            rw [HB39.out]
            simp only [execOp, Act.eval, h38, h28]
            go_simp
            try exact ⟨Turned.refl _ _, rfl⟩
        case s23 =>
          refine fun hs hle => stepG_free [28, 39] [] (by kernel_rfl) rfl ?_
          · intro ac W hT hI hO
            have h28 : ac.tmps.getD 28 undef = .bool B27 := hI 28 (by simp)
            have h39 : ac.tmps.getD 39 undef = bif (true && (B27 == false)) then .bool B39 else undef := hI 39 (by simp)
            show Brings Try.prog (fun v w' => Turned (fun _ => False) W w' ∧ v = .bool B40) _
            rw [HB40.out]
            cases hB : B27
            · simp only [hB] at *
              simp [execOp, Act.eval, go_sem, Brings, h28, h39]
              try exact Turned.refl _ _
            · simp only [hB] at *
              simp [execOp, Act.eval, go_sem, Brings, h28, h39]
              try exact Turned.refl _ _
      case hQ =>
        intro hs vs w8 hlen T8 hV
        have q : vs 40 = .bool B40 := hV 40 (by simp)
        have hB : B40 = false := by
          simp only [HB40.out, HB39.out, HB27.out]
          rfl
        rw [hB] at q
        simp only [List.foldl_cons, List.foldl_nil, List.setIfInBounds_toArray, List.set_cons_zero, List.set_cons_succ, q]
        clear hV q hB
        go_wp2_with fail
        go_roundg (gk - 1)
        case measure => have := HG.out; omega
        case rel => exact ⟨j + 1, show _ = _ by have := HG.out; omega, by omega, by go_num, Tr.trans T8⟩
    · obtain ⟨x, hx⟩ : ∃ x, (four a5 c5)[3]? = some x := ⟨_, rfl⟩
      have xin := (LT.ins_iff _).1 hslw.ins x (List.mem_of_getElem? hx)
      obtain ⟨gx, sx⟩ := four_good a5 c5 x (List.mem_of_getElem? hx)
      obtain ⟨b1, o1, hb1, _, k0, k1, k2, k3⟩ := hslw.lies.cell hx
      injection hb1 with hb1; injection hb1 with hb1 ho1; subst hb1 ho1
      simp only [Nat.zero_add] at k0 k1 k2 k3
      have hxx := fun W (h : Turned (fun _ => False) wr W) => cmp68 (xin.turned0 h) (xin.turned0 h) sx sx gx gx
      rw [Tm.cmp_refl, LT.val_eq x] at hxx
      have hkp : ∀ W, Turned (fun _ => False) wr W → W.cell? ⟨g, 12, none⟩ = some (.int .i64 x.kind) ∧ W.cell? ⟨g, 13, none⟩ = some (.int .i64 x.n) ∧ W.cell? ⟨g, 14, none⟩ = some (.string x.name) ∧ W.cell? ⟨g, 15, none⟩ = some (.slice x.at_.1 x.args.length x.at_.2) := fun W h => ⟨h.cell0 k0, h.cell0 k1, h.cell0 k2, h.cell0 k3⟩
      have HXX := Lib.hid hxx
      have HKP := Lib.hid hkp
      have z1 : decide ((j : Int) + 1 < 4) = false := by simp; omega
      clear hxx hkp xin gx sx hx k0 k1 k2 k3 hslw
      go_wp2_with fail
      obtain ⟨B48, HB48⟩ : ∃ B, Hid (B = ((0 : Int) == 0)) := ⟨_, rfl⟩
      refine wp_region_hs [41, 42, 43, 44, 45, 46, 47, 48, 0] [] [0, 0, 0, 0, 0, 0, 0, 0, 0] [] (fun d v => (match d with | 41 => v = .slice (some ⟨g, 0, none⟩) 4 4 | 42 => v = .pointer (some ⟨g, 12, none⟩) | 43 => v = .agg #[.int .i64 x.kind, .int .i64 x.n, .string x.name, .slice x.at_.1 x.args.length x.at_.2] | 44 => v = .slice (some ⟨g, 0, none⟩) 4 4 | 45 => v = .pointer (some ⟨g, 12, none⟩) | 46 => v = .agg #[.int .i64 x.kind, .int .i64 x.n, .string x.name, .slice x.at_.1 x.args.length x.at_.2] | 47 => v = .int .i64 (0 : Int) | 48 => v = .bool B48 | 0 => v = .bool B48 | _ => True : Prop)) (fun _ W => Turned (fun _ => False) wr W) (by kernel_rfl) rfl (by kernel_rfl) (by kernel_rfl) (by kernel_rfl) (by kernel_rfl) (fun _ h => h) (fun _ _ _ h ht => h.trans ht) ?hs ?hQ
      case hs =>
        refine ⟨?s0, ?s1, ?s2, ?s3, ?s4, ?s5, ?s6, ?s7, ?s8, trivial⟩
        case s0 =>
          refine fun hs hle => stepG_free [] [1] (by kernel_rfl) rfl ?_
          · intro ac W hT hI hO
            have h1 : ac.tmps.getD 1 undef = .slice (some ⟨g, 0, none⟩) 4 4 := hO 1 (by simp)
            show Brings Try.prog (fun v w' => Turned (fun _ => False) W w' ∧ v = .slice (some ⟨g, 0, none⟩) 4 4) _
            simp only [execOp, Act.eval, h1]
            go_simp
            try exact ⟨Turned.refl _ _, rfl⟩
        case s1 =>
          refine fun hs hle => stepG_free [41] [] (by kernel_rfl) rfl ?_
          · intro ac W hT hI hO
            have h41 : ac.tmps.getD 41 undef = .slice (some ⟨g, 0, none⟩) 4 4 := hI 41 (by simp)
            show Brings Try.prog (fun v w' => Turned (fun _ => False) W w' ∧ v = .pointer (some ⟨g, 12, none⟩)) _
            simp only [execOp, Act.eval, h41]
            go_simp
            try exact ⟨Turned.refl _ _, rfl⟩
        case s2 =>
          refine fun hs hle => stepG_free [42] [] (by kernel_rfl) rfl ?_
          · intro ac W hT hI hO
            have h42 : ac.tmps.getD 42 undef = .pointer (some ⟨g, 12, none⟩) := hI 42 (by simp)
            show Brings Try.prog (fun v w' => Turned (fun _ => False) W w' ∧ v = .agg #[.int .i64 x.kind, .int .i64 x.n, .string x.name, .slice x.at_.1 x.args.length x.at_.2]) _
            obtain ⟨x0, x1, x2, x3⟩ := HKP.out W hT
            simp only [execOp, Act.eval, h42]
            go_simp
            exact ⟨Turned.refl _ _, rfl⟩
        case s3 =>
          refine fun hs hle => stepG_free [] [1] (by kernel_rfl) rfl ?_
          · intro ac W hT hI hO
            have h1 : ac.tmps.getD 1 undef = .slice (some ⟨g, 0, none⟩) 4 4 := hO 1 (by simp)
            show Brings Try.prog (fun v w' => Turned (fun _ => False) W w' ∧ v = .slice (some ⟨g, 0, none⟩) 4 4) _
            simp only [execOp, Act.eval, h1]
            go_simp
            try exact ⟨Turned.refl _ _, rfl⟩
        case s4 =>
          refine fun hs hle => stepG_free [44] [] (by kernel_rfl) rfl ?_
          · intro ac W hT hI hO
            have h44 : ac.tmps.getD 44 undef = .slice (some ⟨g, 0, none⟩) 4 4 := hI 44 (by simp)
            show Brings Try.prog (fun v w' => Turned (fun _ => False) W w' ∧ v = .pointer (some ⟨g, 12, none⟩)) _
            simp only [execOp, Act.eval, h44]
            go_simp
            try exact ⟨Turned.refl _ _, rfl⟩
        case s5 =>
          refine fun hs hle => stepG_free [45] [] (by kernel_rfl) rfl ?_
          · intro ac W hT hI hO
            have h45 : ac.tmps.getD 45 undef = .pointer (some ⟨g, 12, none⟩) := hI 45 (by simp)
            show Brings Try.prog (fun v w' => Turned (fun _ => False) W w' ∧ v = .agg #[.int .i64 x.kind, .int .i64 x.n, .string x.name, .slice x.at_.1 x.args.length x.at_.2]) _
            obtain ⟨x0, x1, x2, x3⟩ := HKP.out W hT
            simp only [execOp, Act.eval, h45]
            go_simp
            exact ⟨Turned.refl _ _, rfl⟩
        case s6 =>
          refine fun hs hle => stepG_free [43, 46] [] (by kernel_rfl) rfl ?_
          · intro ac W hT hI hO
            have h43 : ac.tmps.getD 43 undef = .agg #[.int .i64 x.kind, .int .i64 x.n, .string x.name, .slice x.at_.1 x.args.length x.at_.2] := hI 43 (by simp)
            have h46 : ac.tmps.getD 46 undef = .agg #[.int .i64 x.kind, .int .i64 x.n, .string x.name, .slice x.at_.1 x.args.length x.at_.2] := hI 46 (by simp)
            show Brings Try.prog (fun v w' => Turned (fun _ => False) W w' ∧ v = .int .i64 (0 : Int)) _
            simp only [execOp, Act.eval, h43, h46]
            go_simp
            show Calls Try.prog 68 _ W _
            (with_reducible refine (HXX.out W hT).mono ?_)
            rintro e w' ⟨rfl, T'⟩
            exact ⟨_, rfl, T', rfl⟩
        case s7 =>
          refine fun hs hle => stepG_free [47] [] (by kernel_rfl) rfl ?_
          · intro ac W hT hI hO
            have h47 : ac.tmps.getD 47 undef = .int .i64 (0 : Int) := hI 47 (by simp)
            show Brings Try.prog (fun v w' => Turned (fun _ => False) W w' ∧ v = .bool B48) _
            rw [HB48.out]
            simp only [execOp, Act.eval, h47]
            go_simp
            try exact ⟨Turned.refl _ _, rfl⟩
        case s8 =>
          refine fun hs hle => stepG_free [48] [] (by kernel_rfl) rfl ?_
          · intro ac W hT hI hO
            have h48 : ac.tmps.getD 48 undef = .bool B48 := hI 48 (by simp)
            show Brings Try.prog (fun v w' => Turned (fun _ => False) W w' ∧ v = .bool B48) _
            simp only [execOp, Act.eval, h48]
            go_simp
            try exact ⟨Turned.refl _ _, rfl⟩
      case hQ =>
        intro hs vs w8 hlen T8 hV
        have q : vs 0 = .bool B48 := hV 0 (by simp)
        have hB : B48 = true := by
          simp only [HB48.out]
          rfl
        rw [hB] at q
        simp only [List.foldl_cons, List.foldl_nil, List.setIfInBounds_toArray, List.set_cons_zero, List.set_cons_succ, q]
        clear hV q hB
        go_wp2_with fail
        go_ret
        exact ⟨rfl, HT0.out.trans (Tr.trans T8)⟩
end Go.Proofs.Ytoihjobdfjajfaa
