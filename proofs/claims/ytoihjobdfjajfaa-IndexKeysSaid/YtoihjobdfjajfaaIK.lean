/- IndexKeys: the walk. -/
import Derived.Test.YtoihjobdfjajfaaAw16
import Derived.Test.YtoihjobdfjajfaaDeeps
import Derived.Test.YtoihjobdfjajfaaAny2
namespace Go.Proofs.Ytoihjobdfjajfaa
set_option linter.unusedVariables false
set_option linter.unusedSimpArgs false
open Go.RowKit
attribute [local go_sem ↓] Go.wp_at_zero Go.wp_at_succ

/-- At the head of the loops that ask each term whether it is deep. -/
def DeepR (w0 : World) (k : Nat) (l : List LT) (g : Nat) (i : Value) (wr : World) : Prop :=
  ∃ j : Nat, Hid (j + g = l.length) ∧ j ≤ l.length ∧ i = .int .i64 j ∧ Turned (fun _ => False) w0 wr ∧ (∀ x ∈ l.take j, slim x)
theorem sl_app {w : World} {a : LT} {l : List LT} {ad : Option Addr} {n c : Nat} (hr : Row w 27 4 (.slice ad n c) n (a.cells ++ l.flatMap LT.cells)) (hn : n = 1 + l.length) (ha : a.In (fun _ => True) w) (hl : LT.Ins (fun _ => True) w l) : LT.Sl (fun _ => True) w ad c (a :: l) :=
  (LT.Sl.of_row (p := fun _ => True) (l := a :: l) (by rw [List.flatMap_cons]; exact hr) (fun _ _ => trivial) ⟨ha, hl⟩).2
theorem compN {w : World} {a : Option Addr} {c : Nat} {l : List LT} (s : ByteArray) (hs : s.size ≤ maxLen) (n : Nat) (hl : n ≤ 65536) (hn : n = l.length) (h : LT.Sl (fun _ => True) w a c l) :
    Calls Try.prog 37 #[.string s, .slice a n c] w fun e w' => ∃ a' c', e = .returned (.agg #[.int .i64 2, .int .i64 0, .string s, .slice a' n c']) ∧ LT.In (fun _ => True) w' (.mk 2 0 s (a', c') l) ∧ Turned (fun _ => False) w w' :=
  compV s hs n hl hn.symm h

theorem goodN {w : World} {s : ByteArray} {n : Nat} {a' : Option Addr} {c' : Nat} {l : List LT} (hn : n = l.length) (h : LT.In (fun _ => True) w (.mk 2 0 s (a', c') l)) (hs : slim (Tm.mk 2 0 s (a', c') l)) :
    Calls Try.prog 38 #[.agg #[.int .i64 2, .int .i64 0, .string s, .slice a' n c']] w fun e w' => e = .returned (.bool (goodB (Tm.mk 2 0 s (a', c') l))) ∧ Turned (fun _ => False) w w' := by
  subst hn; exact good38 h hs
/-- Of, at a term that may be and has an arg. -/
theorem ofN {w : World} {s : ByteArray} {n : Nat} {a' : Option Addr} {c' : Nat} {x : LT} {l : List LT} (hn : n = (x :: l).length) (h : LT.In (fun _ => True) w (.mk 2 0 s (a', c') (x :: l))) (hs : slim (Tm.mk 2 0 s (a', c') (x :: l))) (hg : goodB (Tm.mk 2 0 s (a', c') (x :: l)) = true) :
    Calls Try.prog 42 #[.agg #[.int .i64 2, .int .i64 0, .string s, .slice a' n c']] w fun e w' => (∃ kk kn ks ka, Hid (Key.mk kk kn ks ka = keyOf1 x) ∧ e = .returned (.agg #[.int .i64 kk, .int .i64 kn, .string ks, .int .i64 ka])) ∧ Turned (fun _ => False) w w' := by
  subst hn
  refine (of42 h hs).mono ?_
  rintro e w' ⟨rfl, ht⟩
  exact ⟨⟨_, _, _, _, rfl, by rw [keyOf_cons (x := x) (r := l) rfl hg]; rfl⟩, ht⟩
theorem key4 {a b d a' b' d' : Int} {s s' : ByteArray} {k : Key} (h : Key.mk a b s d = k) (h' : Key.mk a' b' s' d' = k) : a = a' ∧ b = b' ∧ s = s' ∧ d = d' := by
  have := h.trans h'.symm
  simpa using this
theorem mayLit (kk kn : Int) (ks : ByteArray) (ka : Int) (w : World) : Calls Try.prog 43 #[.agg #[.int .i64 kk, .int .i64 kn, .string ks, .int .i64 ka], .agg #[.int .i64 kk, .int .i64 kn, .string ks, .int .i64 ka]] w fun e w' => e = .returned (.bool true) ∧ Turned (fun _ => False) w w' := by
  refine (may43 ⟨kk, kn, ks, ka⟩ ⟨kk, kn, ks, ka⟩ w).mono ?_
  rintro e w' ⟨rfl, ht⟩
  exact ⟨ret_bool (by unfold mayB; simp), ht⟩
theorem kind_of_good {α : Type} {t : Tm α} (h : goodB t = true) : t.kind = 0 ∨ t.kind = 1 ∨ t.kind = 2 := by
  have h1 := good_ones h t (by rw [Tm.flat_eq]; exact List.mem_cons_self ..)
  unfold goodOneB at h1
  by_cases a : t.kind = 0
  · exact .inl a
  · by_cases b : t.kind = 1
    · exact .inr (.inl b)
    · by_cases c : t.kind = 2
      · exact .inr (.inr c)
      · simp [a, b, c] at h1
theorem rowMade (w : World) (H : Nat) (hH : w.heap.size = H) (e : TypeId) (size : Nat) (cs : Array Value) (n : Nat) (h : cs.size = n * size) (hn : n ≤ maxLen) : Row (w.alloc (.cells cs e)) e size (.slice (some ⟨H, 0, none⟩) n n) n cs.toList := by
  subst hH; exact Row.made w e size cs n h hn
theorem slNone {p : Nat → Prop} {w : World} {a : Option Addr} {c : Nat} {l : List LT} (h : LT.Sl p w a c l) : a = none → l.length = 0 ∧ c = 0 := h.none_
theorem slNews {p : Nat → Prop} {w w' : World} {a : Option Addr} {c : Nat} {l : List LT} (h : LT.Sl p w a c l) (ht : Turned (fun _ => False) w w') : ∀ ad, a = some ad → ∀ j u, (l.flatMap LT.cells)[j]? = some u → w'.cell? (ad.add j) = some u := by
  intro ad e j u hu
  have hl : 0 < l.length := by
    have := (List.getElem?_eq_some_iff.1 hu).1
    rw [LT.flat_length] at this; omega
  obtain ⟨b, o, e2, _, hc⟩ := (h.turned0 ht).lies hl
  subst e
  have e3 := Option.some.inj e2
  subst e3
  rw [Addr.add_lit]
  exact hc j u hu
theorem ownNew {w : World} {g n c : Nat} (hg : w.heap.size ≤ g) : ∀ i, i < w.heap.size → (Value.slice (some ⟨g, 0, none⟩) n c).ownBlock = some i → False := by
  intro i hi h
  simp [Value.ownBlock] at h
  omega

set_option maxRecDepth 100000 in
set_option maxHeartbeats 40000000 in
theorem indexKeys {w : World} {a : LT} {r m : List LT} {ar am : Option Addr} {cr cm : Nat} (ha : a.In (fun _ => True) w) (hr : LT.Sl (fun _ => True) w ar cr r) (hm : LT.Sl (fun _ => True) w am cm m) :
    Calls Try.prog 4 #[a.val, .slice ar r.length cr, .slice am m.length cm] w fun e w' => e = .returned (.bool true) ∧ Turned (fun _ => False) w w' := by
  have hr1 : r.length ≤ 9223372036854775807 := by have := hr.cap; have := hr.max; unfold maxLen at this; omega
  have hm1 : m.length ≤ 9223372036854775807 := by have := hm.cap; have := hm.max; unfold maxLen at this; omega
  obtain ⟨bx, hbx⟩ : ∃ bx : Obj, bx = .cells #[.int .i64 a.kind, .int .i64 a.n, .string a.name, .slice a.at_.1 a.args.length a.at_.2] 27 := ⟨_, rfl⟩
  have T0 := (Turned.refl (fun _ => False) w).alloc bx
  have hbc : ∀ W, Turned (fun _ => False) (w.alloc bx) W → W.cell? ⟨w.heap.size, 0, none⟩ = some (.int .i64 a.kind) ∧ W.cell? ⟨w.heap.size, 1, none⟩ = some (.int .i64 a.n) ∧ W.cell? ⟨w.heap.size, 2, none⟩ = some (.string a.name) ∧ W.cell? ⟨w.heap.size, 3, none⟩ = some (.slice a.at_.1 a.args.length a.at_.2) ∧ w.heap.size < W.heap.size := fun W h => by subst hbx; exact boxAt h
  have hdp := fun W (h : Turned (fun _ => False) (w.alloc bx) W) => deep41 (fun _ => True) 30 a W (by omega) (ha.turned0 (T0.trans h))
  rw [LT.val_eq] at hdp ⊢
  subst hbx
  have HBC := Lib.hid hbc
  have HDP := Lib.hid hdp
  have HA := Lib.hid ha
  have HR := Lib.hid hr
  have HM := Lib.hid hm
  have HT0 := Lib.hid T0
  clear hbc hdp ha hr hm T0
  cases hda : deepB 30 a with
  | true =>
    rw [hda] at HDP
    clear hda
    go_enter Try.func4, Try.ntmps4
    go_wp2_with (first
      | (go_at_call 40; refine (awake40 _).mono ?_; rintro e w1 ⟨rfl, T1⟩; obtain ⟨b0, b1, b2, b3, bl⟩ := HBC.out _ T1)
      | (go_at_call 41; refine (HDP.out _ T1).mono ?_; rintro e w2 ⟨rfl, T2⟩))
    go_ret
    exact ⟨rfl, HT0.out.trans (T1.trans T2)⟩
  | false =>
  rw [hda] at HDP
  have hsa := deep_slim 30 a hda
  clear hda
  by_cases hr7 : 7 < r.length
  · clear hsa
    go_enter Try.func4, Try.ntmps4
    go_wp2_with (first
      | (go_at_call 40; refine (awake40 _).mono ?_; rintro e w1 ⟨rfl, T1⟩; obtain ⟨b0, b1, b2, b3, bl⟩ := HBC.out _ T1)
      | (go_at_call 41; refine (HDP.out _ T1).mono ?_; rintro e w2 ⟨rfl, T2⟩))
    go_ret
    exact ⟨rfl, HT0.out.trans (T1.trans T2)⟩
  by_cases hm7 : 7 < m.length
  · have hr8 : decide (7 < (r.length : Int)) = false := by simp; omega
    clear hsa
    go_enter Try.func4, Try.ntmps4
    go_wp2_with (first
      | (go_at_call 40; refine (awake40 _).mono ?_; rintro e w1 ⟨rfl, T1⟩; obtain ⟨b0, b1, b2, b3, bl⟩ := HBC.out _ T1)
      | (go_at_call 41; refine (HDP.out _ T1).mono ?_; rintro e w2 ⟨rfl, T2⟩))
    go_ret
    exact ⟨rfl, HT0.out.trans (T1.trans T2)⟩
  · have hr8 : decide (7 < (r.length : Int)) = false := by simp; omega
    have hm8 : decide (7 < (m.length : Int)) = false := by simp; omega
    have hr7 : r.length ≤ 7 := by omega
    have hm7 : m.length ≤ 7 := by omega
    have HSA := Lib.hid hsa
    clear hsa
    go_enter Try.func4, Try.ntmps4
    go_wp2_with (first
      | (go_at_call 40; refine (awake40 _).mono ?_; rintro e w1 ⟨rfl, T1⟩; obtain ⟨b0, b1, b2, b3, bl⟩ := HBC.out _ T1)
      | (go_at_call 41; refine (HDP.out _ T1).mono ?_; rintro e w2 ⟨rfl, T2⟩))
    have T02 := HT0.out.trans (T1.trans T2)
    go_loopg [7] r.length (fun g i wr => DeepR w2 20 r g i wr)
    case atStart => exact ⟨0, Nat.zero_add _, Nat.zero_le _, rfl, Turned.refl _ _, fun x hx => by simp at hx⟩
    case round =>
      obtain ⟨j, HG, hj, rfl, Tr, hsl⟩ := hrel
      have HSL := Lib.hid hsl
      clear hsl
      by_cases hjl : j < r.length
      · have hx : r[j]? = some r[j] := List.getElem?_eq_getElem hjl
        obtain ⟨x, hxe⟩ : ∃ x : LT, x = r[j] := ⟨_, rfl⟩
        rw [← hxe] at hx
        clear hxe
        obtain ⟨b, o, rfl, _⟩ := HR.out.lies (by omega)
        have hw := HR.out.turned0 (T02.trans Tr)
        obtain ⟨c0, c1, c2, c3⟩ := hw.lies.at hx
        have hdx := deep41 (fun _ => True) 20 x wr (by omega) (hw.mem hx)
        rw [LT.val_eq] at hdx
        have HX := Lib.hid hx
        have HDX := Lib.hid hdx
        clear hx hdx hw
        cases hd : deepB 20 x with
        | true =>
          rw [hd] at HDX
          go_wp2_with (go_at_call 41; refine HDX.out.mono ?_; rintro e w5 ⟨rfl, T5⟩)
          go_ret
          exact ⟨rfl, T02.trans (Tr.trans T5)⟩
        | false =>
          rw [hd] at HDX
          have HDF := Lib.hid hd
          clear hd
          go_wp2_with (go_at_call 41; refine HDX.out.mono ?_; rintro e w5 ⟨rfl, T5⟩)
          go_roundg (gk - 1)
          case measure => have := HG.out; omega
          case rel =>
            refine ⟨j + 1, show _ = _ by have := HG.out; omega, by omega, by go_num, Tr.trans T5, fun z hz => ?_⟩
            rw [take_snoc' _ _ _ HX.out] at hz
            rcases List.mem_append.1 hz with hz | hz
            · exact HSL.out z hz
            · rw [List.mem_singleton.1 hz]; exact deep_slim 20 x HDF.out
      · have hje : j = r.length := by omega
        have hslr := HSL.out
        rw [hje, List.take_length] at hslr
        have HSR := Lib.hid hslr
        obtain ⟨wq, rfl⟩ : ∃ wq : World, wq = wr := ⟨_, rfl⟩
        have T03 := T02.trans Tr
        clear hje hslr HSL
        go_wp2_with fail
        go_loopg [8] m.length (fun g i wr => DeepR wq 20 m g i wr)
        case atStart => exact ⟨0, Nat.zero_add _, Nat.zero_le _, rfl, Turned.refl _ _, fun x hx => by simp at hx⟩
        case round =>
          obtain ⟨i, HI, hi, rfl, Ti, hsl⟩ := hrel
          have HSL := Lib.hid hsl
          clear hsl
          by_cases hil : i < m.length
          · have hx : m[i]? = some m[i] := List.getElem?_eq_getElem hil
            obtain ⟨x, hxe⟩ : ∃ x : LT, x = m[i] := ⟨_, rfl⟩
            rw [← hxe] at hx
            clear hxe
            obtain ⟨b, o, rfl, _⟩ := HM.out.lies (by omega)
            have hw := HM.out.turned0 (T03.trans Ti)
            obtain ⟨c0, c1, c2, c3⟩ := hw.lies.at hx
            have hdx := deep41 (fun _ => True) 20 x wr (by omega) (hw.mem hx)
            rw [LT.val_eq] at hdx
            have HX := Lib.hid hx
            have HDX := Lib.hid hdx
            clear hx hdx hw
            cases hd : deepB 20 x with
            | true =>
              rw [hd] at HDX
              go_wp2_with (go_at_call 41; refine HDX.out.mono ?_; rintro e w5 ⟨rfl, T5⟩)
              go_ret
              exact ⟨rfl, T03.trans (Ti.trans T5)⟩
            | false =>
              rw [hd] at HDX
              have HDF := Lib.hid hd
              clear hd
              go_wp2_with (go_at_call 41; refine HDX.out.mono ?_; rintro e w5 ⟨rfl, T5⟩)
              go_roundg (gk - 1)
              case measure => have := HI.out; omega
              case rel =>
                refine ⟨i + 1, show _ = _ by have := HI.out; omega, by omega, by go_num, Ti.trans T5, fun z hz => ?_⟩
                rw [take_snoc' _ _ _ HX.out] at hz
                rcases List.mem_append.1 hz with hz | hz
                · exact HSL.out z hz
                · rw [List.mem_singleton.1 hz]; exact deep_slim 20 x HDF.out
          · have hie : i = m.length := by omega
            have hslm := HSL.out
            rw [hie, List.take_length] at hslm
            have HSM := Lib.hid hslm
            have T04 := T03.trans Ti
            have T14 := T1.trans (T2.trans (Tr.trans Ti))
            have HGX := Lib.hid (show ∀ d e : Option Addr × Nat, goodB (Tm.mk 2 0 ⟨#[112]⟩ d (a :: r)) = goodB (Tm.mk 2 0 ⟨#[112]⟩ e (a :: r)) from fun _ _ => rfl)
            have hsx : ∀ a' c', slim (Tm.mk 2 0 ⟨#[112]⟩ (a', c') (a :: r)) := fun a' c' => slim_mk (by simp; omega) (fun z hz => by rcases List.mem_cons.1 hz with rfl | hz; exact HSA.out; exact HSR.out z hz)
            have hsy : ∀ a' c', slim (Tm.mk 2 0 ⟨#[113]⟩ (a', c') (a :: m)) := fun a' c' => slim_mk (by simp; omega) (fun z hz => by rcases List.mem_cons.1 hz with rfl | hz; exact HSA.out; exact HSM.out z hz)
            have HN6 : Hid (1 + r.length = (a :: r).length) := by show _ = _; simp; omega
            have HN8 : Hid (1 + m.length = (a :: m).length) := by show _ = _; simp; omega
            have HSX := Lib.hid hsx
            have HSY := Lib.hid hsy
            obtain ⟨d0, d1, d2, d3, dl⟩ := HBC.out _ T14
            obtain ⟨i0, hi0, hz0, hz1, hz2⟩ := info_parts infoT
            have hwr := HR.out.turned0 T04
            have hwm := HM.out.turned0 T04
            have hwa := HA.out.turned0 T04
            have HWR := Lib.hid hwr
            have HWM := Lib.hid hwm
            have HWA := Lib.hid hwa
            clear hie hslm HSL hsx hsy hwr hwm hwa
            go_wp2_with (first
              | (at_builtin; refine append_any _ rfl (.tmp 49) (.tmp 50) 22 rfl 27 i0 zeroT 4 56 Try.underlying22 hi0 hz0 hz1 hz2 rfl (by decide) _ _ _ rfl (Row.made wr 27 4 #[.int .i64 a.kind, .int .i64 a.n, .string a.name, .slice a.at_.1 a.args.length a.at_.2] 1 rfl (by decide)) ar r.length cr (r.flatMap LT.cells) rfl (slNone HWR.out) (LT.flat_length r) (slNews HWR.out ((Turned.refl _ wr).alloc _)) (LT.flat_one r) (by unfold maxLen; omega) (by omega) ?_; intro v5 w5 hrow5 T5 hloc5; obtain ⟨a5, c5, rfl⟩ := hrow5.shape; have t5 : Turned (fun _ => False) wr w5 := ((Turned.refl _ wr).alloc _).step T5 (ownNew (Nat.le_refl _)))
              | (go_at_call_of 37 (Value.string ⟨#[112]⟩); refine (compN ⟨#[112]⟩ (by unfold maxLen; decide) (1 + r.length) (by omega) (by simp; omega) (sl_app (a := a) (l := r) (by rw [LT.cells_eq]; exact hrow5) rfl (HWA.out.turned0 t5) (HWR.out.turned0 t5).ins)).mono ?_; rintro e w6 ⟨a6, c6, rfl, i6, T6⟩; have t6 := (t5.trans T6).alloc (.cells #[.int .i64 2, .int .i64 0, .string ⟨#[112]⟩, .slice a6 (1 + r.length) c6] 27); obtain ⟨e0, e1, e2, e3, el⟩ := HBC.out _ (T14.trans t6))
              | (at_builtin; refine append_any _ rfl (.tmp 54) (.tmp 55) 22 rfl 27 i0 zeroT 4 56 Try.underlying22 hi0 hz0 hz1 hz2 rfl (by decide) _ _ _ rfl (rowMade (w6.alloc (.cells #[.int .i64 2, .int .i64 0, .string ⟨#[112]⟩, .slice a6 (1 + r.length) c6] 27)) (w6.heap.size + 1) (by simp) 27 4 #[.int .i64 a.kind, .int .i64 a.n, .string a.name, .slice a.at_.1 a.args.length a.at_.2] 1 rfl (by decide)) am m.length cm (m.flatMap LT.cells) rfl (slNone HWM.out) (LT.flat_length m) (slNews HWM.out (t6.alloc _)) (LT.flat_one m) (by unfold maxLen; omega) (by omega) ?_; intro v7 w7 hrow7 T7 hloc7; obtain ⟨a7, c7, rfl⟩ := hrow7.shape; have t7 : Turned (fun _ => False) wr w7 := (t6.alloc _).step T7 (ownNew (by have := t6.size; simpa using this)); have s7 : Turned (fun _ => False) (w6.alloc (.cells #[.int .i64 2, .int .i64 0, .string ⟨#[112]⟩, .slice a6 (1 + r.length) c6] 27)) w7 := ((Turned.refl _ _).alloc _).step T7 (ownNew (by simp)))
              | (go_at_call_of 37 (Value.string ⟨#[113]⟩); refine (compN ⟨#[113]⟩ (by unfold maxLen; decide) (1 + m.length) (by omega) (by simp; omega) (sl_app (a := a) (l := m) (by rw [LT.cells_eq]; exact hrow7) rfl (HWA.out.turned0 t7) (HWM.out.turned0 t7).ins)).mono ?_; rintro e w8 ⟨a8, c8, rfl, i8, T8⟩; have t8 := (t7.trans T8).alloc (.cells #[.int .i64 2, .int .i64 0, .string ⟨#[113]⟩, .slice a8 (1 + m.length) c8] 27); obtain ⟨f0, f1, f2, f3, fl⟩ := HBC.out _ (T14.trans t8); obtain ⟨g0, g1, g2, g3, gl⟩ := boxAt (s7.trans T8); have s8 := (s7.trans T8).alloc (.cells #[.int .i64 2, .int .i64 0, .string ⟨#[113]⟩, .slice a8 (1 + m.length) c8] 27); have j6 := i6.turned0 (((Turned.refl (fun _ => False) w6).alloc (.cells #[.int .i64 2, .int .i64 0, .string ⟨#[112]⟩, .slice a6 (1 + r.length) c6] 27)).trans s8); have j8 := i8.turned0 ((Turned.refl (fun _ => False) w8).alloc (.cells #[.int .i64 2, .int .i64 0, .string ⟨#[113]⟩, .slice a8 (1 + m.length) c8] 27)))
              | (go_at_call 38; (with_reducible refine (goodN HN6.out j6 (HSX.out _ _)).mono ?_); rintro e w9 ⟨rfl, T9⟩; obtain ⟨h0, h1, h2, h3, hl9⟩ := boxAt T9; have j9 := j8.turned0 T9)
              | (go_at_call 38; (with_reducible refine (goodN HN8.out j9 (HSY.out _ _)).mono ?_); rintro e w10 ⟨rfl, T10⟩; obtain ⟨k0, k1, k2, k3, kl⟩ := boxAt (s8.trans (T9.trans T10)))
              | (go_at_call 42; have hgx : goodB (Tm.mk 2 0 ⟨#[112]⟩ (a6, c6) (a :: r)) = true := (by assumption); (with_reducible refine (ofN HN6.out (j6.turned0 (T9.trans T10)) (HSX.out _ _) hgx).mono ?_); rintro e w11 ⟨⟨kk, kn, ks, ka, hk, rfl⟩, T11⟩))
            · go_ret
              exact ⟨rfl, T04.trans (t8.trans (T9.trans T10))⟩
            · have hgx : goodB (Tm.mk 2 0 ⟨#[112]⟩ (a6, c6) (a :: r)) = true := by assumption
              have hgy : goodB (Tm.mk 2 0 ⟨#[113]⟩ (a8, c8) (a :: m)) = true := by simpa using (by assumption : (!goodB (Tm.mk 2 0 ⟨#[113]⟩ (a8, c8) (a :: m))) = false)
              have hkind := kind_of_good (good_args hgx a (List.mem_cons_self ..))
              have hkeep : ∀ W, Turned (fun _ => False) (w11.alloc (.cells #[.int .i64 kk, .int .i64 kn, .string ks, .int .i64 ka] 35)) W → (Turned (fun _ => False) (w11.alloc (.cells #[.int .i64 kk, .int .i64 kn, .string ks, .int .i64 ka] 35)) W ∧ (W.cell? ⟨w11.heap.size, 0, none⟩ = some (.int .i64 kk) ∧ W.cell? ⟨w11.heap.size, 1, none⟩ = some (.int .i64 kn) ∧ W.cell? ⟨w11.heap.size, 2, none⟩ = some (.string ks) ∧ W.cell? ⟨w11.heap.size, 3, none⟩ = some (.int .i64 ka)) ∧ (W.cell? ⟨w8.heap.size, 0, none⟩ = some (.int .i64 2) ∧ W.cell? ⟨w8.heap.size, 1, none⟩ = some (.int .i64 0) ∧ W.cell? ⟨w8.heap.size, 2, none⟩ = some (.string ⟨#[113]⟩) ∧ W.cell? ⟨w8.heap.size, 3, none⟩ = some (.slice a8 (1 + m.length) c8)) ∧ (W.cell? ⟨w.heap.size, 0, none⟩ = some (.int .i64 a.kind) ∧ W.cell? ⟨w.heap.size, 1, none⟩ = some (.int .i64 a.n) ∧ W.cell? ⟨w.heap.size, 2, none⟩ = some (.string a.name) ∧ W.cell? ⟨w.heap.size, 3, none⟩ = some (.slice (LT.at_ a).1 a.args.length (LT.at_ a).2))) := fun W h => by
                have tt := ((Turned.refl (fun _ => False) w11).alloc (.cells #[.int .i64 kk, .int .i64 kn, .string ks, .int .i64 ka] 35)).trans h
                obtain ⟨q0, q1, q2, q3, _⟩ := cells4 (box4 h).1
                obtain ⟨p0, p1, p2, p3, _⟩ := boxAt (T9.trans (T10.trans (T11.trans tt)))
                obtain ⟨n0, n1, n2, n3, _⟩ := HBC.out _ (T14.trans (t8.trans (T9.trans (T10.trans (T11.trans tt)))))
                exact ⟨h, ⟨q0, q1, q2, q3⟩, ⟨p0, p1, p2, p3⟩, ⟨n0, n1, n2, n3⟩⟩
              have HKP := Lib.hid hkeep
              have J8 := Lib.hid (show ∀ W, Turned (fun _ => False) (w11.alloc (.cells #[.int .i64 kk, .int .i64 kn, .string ks, .int .i64 ka] 35)) W → _ from fun W h => j9.turned0 (T10.trans (T11.trans (((Turned.refl (fun _ => False) w11).alloc _).trans h))))
              have hmay := fun W => mayLit kk kn ks ka W
              have HMAY := Lib.hid hmay
              have hq : ∀ W, (binOp .eql 35 (.agg #[.int .i64 kk, .int .i64 kn, .string ks, .int .i64 ka]) (.agg #[.int .i64 kk, .int .i64 kn, .string ks, .int .i64 ka])).run Try.prog W = .ok (.bool true) W := fun W => by have := key_eql (Key.mk kk kn ks ka) (Key.mk kk kn ks ka) W; simpa using this
              clear hkeep hmay
              obtain ⟨B71, HB71⟩ : ∃ B, Hid (B = true) := ⟨_, rfl⟩
              obtain ⟨B76, HB76⟩ : ∃ B, Hid (B = (B71 && true)) := ⟨_, rfl⟩
              obtain ⟨B80, HB80⟩ : ∃ B, Hid (B = (kk == 0)) := ⟨_, rfl⟩
              obtain ⟨B83, HB83⟩ : ∃ B, Hid (B = (a.kind == 0)) := ⟨_, rfl⟩
              obtain ⟨B84, HB84⟩ : ∃ B, Hid (B = (B80 == B83)) := ⟨_, rfl⟩
              obtain ⟨B85, HB85⟩ : ∃ B, Hid (B = (B76 && B84)) := ⟨_, rfl⟩
              obtain ⟨B89, HB89⟩ : ∃ B, Hid (B = (kk != 1)) := ⟨_, rfl⟩
              obtain ⟨B95, HB95⟩ : ∃ B, Hid (B = (kn == a.n)) := ⟨_, rfl⟩
              obtain ⟨B96, HB96⟩ : ∃ B, Hid (B = (B89 || B95)) := ⟨_, rfl⟩
              obtain ⟨B97, HB97⟩ : ∃ B, Hid (B = (B85 && B96)) := ⟨_, rfl⟩
              obtain ⟨B101, HB101⟩ : ∃ B, Hid (B = (kk != 2)) := ⟨_, rfl⟩
              obtain ⟨B107, HB107⟩ : ∃ B, Hid (B = (ks.toList == a.name.toList)) := ⟨_, rfl⟩
              obtain ⟨B114, HB114⟩ : ∃ B, Hid (B = (ka == (a.args.length : Int))) := ⟨_, rfl⟩
              obtain ⟨B115, HB115⟩ : ∃ B, Hid (B = (B107 && B114)) := ⟨_, rfl⟩
              obtain ⟨B116, HB116⟩ : ∃ B, Hid (B = (B101 || B115)) := ⟨_, rfl⟩
              obtain ⟨B117, HB117⟩ : ∃ B, Hid (B = (B97 && B116)) := ⟨_, rfl⟩
              refine wp_region_ssa' (G := (fun d v _ => (match d with | 68 => v = .agg #[.int .i64 kk, .int .i64 kn, .string ks, .int .i64 ka] | 69 => v = .agg #[.int .i64 2, .int .i64 0, .string ⟨#[113]⟩, .slice a8 (1 + m.length) c8] | 70 => v = .agg #[.int .i64 kk, .int .i64 kn, .string ks, .int .i64 ka] | 71 => v = .bool B71 | 72 => v = .bool B71 | 73 => v = bif (true && (B71 == true)) then .agg #[.int .i64 kk, .int .i64 kn, .string ks, .int .i64 ka] else undef | 74 => v = bif (true && (B71 == true)) then .agg #[.int .i64 kk, .int .i64 kn, .string ks, .int .i64 ka] else undef | 75 => v = bif (true && (B71 == true)) then .bool true else undef | 76 => v = .bool B76 | 77 => v = .bool B76 | 78 => v = bif (true && (B76 == true)) then .pointer (some ⟨w11.heap.size, 0, none⟩) else undef | 79 => v = bif (true && (B76 == true)) then .int .i64 kk else undef | 80 => v = bif (true && (B76 == true)) then .bool B80 else undef | 81 => v = bif (true && (B76 == true)) then .pointer (some ⟨w.heap.size, 0, none⟩) else undef | 82 => v = bif (true && (B76 == true)) then .int .i64 a.kind else undef | 83 => v = bif (true && (B76 == true)) then .bool B83 else undef | 84 => v = bif (true && (B76 == true)) then .bool B84 else undef | 85 => v = .bool B85 | 86 => v = .bool B85 | 87 => v = bif (true && (B85 == true)) then .pointer (some ⟨w11.heap.size, 0, none⟩) else undef | 88 => v = bif (true && (B85 == true)) then .int .i64 kk else undef | 89 => v = bif (true && (B85 == true)) then .bool B89 else undef | 90 => v = bif (true && (B85 == true)) then .bool B89 else undef | 91 => v = bif ((true && (B85 == true)) && (B89 == false)) then .pointer (some ⟨w11.heap.size, 1, none⟩) else undef | 92 => v = bif ((true && (B85 == true)) && (B89 == false)) then .int .i64 kn else undef | 93 => v = bif ((true && (B85 == true)) && (B89 == false)) then .pointer (some ⟨w.heap.size, 1, none⟩) else undef | 94 => v = bif ((true && (B85 == true)) && (B89 == false)) then .int .i64 a.n else undef | 95 => v = bif ((true && (B85 == true)) && (B89 == false)) then .bool B95 else undef | 96 => v = bif (true && (B85 == true)) then .bool B96 else undef | 97 => v = .bool B97 | 98 => v = .bool B97 | 99 => v = bif (true && (B97 == true)) then .pointer (some ⟨w11.heap.size, 0, none⟩) else undef | 100 => v = bif (true && (B97 == true)) then .int .i64 kk else undef | 101 => v = bif (true && (B97 == true)) then .bool B101 else undef | 102 => v = bif (true && (B97 == true)) then .bool B101 else undef | 103 => v = bif ((true && (B97 == true)) && (B101 == false)) then .pointer (some ⟨w11.heap.size, 2, none⟩) else undef | 104 => v = bif ((true && (B97 == true)) && (B101 == false)) then .string ks else undef | 105 => v = bif ((true && (B97 == true)) && (B101 == false)) then .pointer (some ⟨w.heap.size, 2, none⟩) else undef | 106 => v = bif ((true && (B97 == true)) && (B101 == false)) then .string a.name else undef | 107 => v = bif ((true && (B97 == true)) && (B101 == false)) then .bool B107 else undef | 108 => v = bif ((true && (B97 == true)) && (B101 == false)) then .bool B107 else undef | 109 => v = bif (((true && (B97 == true)) && (B101 == false)) && (B107 == true)) then .pointer (some ⟨w11.heap.size, 3, none⟩) else undef | 110 => v = bif (((true && (B97 == true)) && (B101 == false)) && (B107 == true)) then .int .i64 ka else undef | 111 => v = bif (((true && (B97 == true)) && (B101 == false)) && (B107 == true)) then .pointer (some ⟨w.heap.size, 3, none⟩) else undef | 112 => v = bif (((true && (B97 == true)) && (B101 == false)) && (B107 == true)) then .slice a.at_.1 a.args.length a.at_.2 else undef | 113 => v = bif (((true && (B97 == true)) && (B101 == false)) && (B107 == true)) then .int .i64 (a.args.length : Int) else undef | 114 => v = bif (((true && (B97 == true)) && (B101 == false)) && (B107 == true)) then .bool B114 else undef | 115 => v = bif ((true && (B97 == true)) && (B101 == false)) then .bool B115 else undef | 116 => v = bif (true && (B97 == true)) then .bool B116 else undef | 117 => v = .bool B117 | 6 => v = .bool B117 | _ => True : Prop))) [68, 69, 70, 71, 72, 73, 74, 75, 76, 77, 78, 79, 80, 81, 82, 83, 84, 85, 86, 87, 88, 89, 90, 91, 92, 93, 94, 95, 96, 97, 98, 99, 100, 101, 102, 103, 104, 105, 106, 107, 108, 109, 110, 111, 112, 113, 114, 115, 116, 117, 6] (by kernel_rfl) rfl (by kernel_rfl) ?hG ?hs ?hQ
              case hG => exact fun d v _ _ _ h => h
              case hs =>
                refine ⟨?s0, ?s1, ?s2, ?s3, ?s4, ?s5, ?s6, ?s7, ?s8, ?s9, ?s10, ?s11, ?s12, ?s13, ?s14, ?s15, ?s16, ?s17, ?s18, ?s19, ?s20, ?s21, ?s22, ?s23, ?s24, ?s25, ?s26, ?s27, ?s28, ?s29, ?s30, ?s31, ?s32, ?s33, ?s34, ?s35, ?s36, ?s37, ?s38, ?s39, ?s40, ?s41, ?s42, ?s43, ?s44, ?s45, ?s46, ?s47, ?s48, ?s49, ?s50, trivial⟩
                case s0 =>
                  refine stepOk_free [] [11] (by kernel_rfl) rfl ?_
                  · intro ac W hT hI hO
                    have h11 : ac.tmps.getD 11 undef = .pointer (some ⟨w11.heap.size, 0, none⟩) := hO 11 (by simp)
                    show Brings Try.prog (fun v w' => Turned (fun _ => False) W w' ∧ v = .agg #[.int .i64 kk, .int .i64 kn, .string ks, .int .i64 ka]) _
                    obtain ⟨_, ⟨x0, x1, x2, x3⟩, ⟨y0, y1, y2, y3⟩, ⟨z0, z1, z2, z3⟩⟩ := HKP.out W hT
                    simp only [execOp, Act.eval, h11]
                    go_simp
                    exact ⟨Turned.refl _ _, rfl⟩
                case s1 =>
                  refine stepOk_free [] [10] (by kernel_rfl) rfl ?_
                  · intro ac W hT hI hO
                    have h10 : ac.tmps.getD 10 undef = .pointer (some ⟨w8.heap.size, 0, none⟩) := hO 10 (by simp)
                    show Brings Try.prog (fun v w' => Turned (fun _ => False) W w' ∧ v = .agg #[.int .i64 2, .int .i64 0, .string ⟨#[113]⟩, .slice a8 (1 + m.length) c8]) _
                    obtain ⟨_, ⟨x0, x1, x2, x3⟩, ⟨y0, y1, y2, y3⟩, ⟨z0, z1, z2, z3⟩⟩ := HKP.out W hT
                    simp only [execOp, Act.eval, h10]
                    go_simp
                    exact ⟨Turned.refl _ _, rfl⟩
                case s2 =>
                  refine stepOk_free [69] [] (by kernel_rfl) rfl ?_
                  · intro ac W hT hI hO
                    have h69 : ac.tmps.getD 69 undef = .agg #[.int .i64 2, .int .i64 0, .string ⟨#[113]⟩, .slice a8 (1 + m.length) c8] := hI 69 (by simp)
                    show Brings Try.prog (fun v w' => Turned (fun _ => False) W w' ∧ v = .agg #[.int .i64 kk, .int .i64 kn, .string ks, .int .i64 ka]) _
                    simp only [execOp, Act.eval, h69]
                    go_simp
                    show Calls Try.prog 42 _ W _
                    (with_reducible refine (ofN HN8.out (J8.out W hT) (HSY.out _ _) hgy).mono ?_)
                    rintro e w13 ⟨⟨kk2, kn2, ks2, ka2, hk2, rfl⟩, T13⟩
                    obtain ⟨rfl, rfl, rfl, rfl⟩ := key4 hk2.out hk.out
                    exact ⟨_, rfl, T13, rfl⟩
                case s3 =>
                  refine stepOk_free [68, 70] [] (by kernel_rfl) rfl ?_
                  · intro ac W hT hI hO
                    have h68 : ac.tmps.getD 68 undef = .agg #[.int .i64 kk, .int .i64 kn, .string ks, .int .i64 ka] := hI 68 (by simp)
                    have h70 : ac.tmps.getD 70 undef = .agg #[.int .i64 kk, .int .i64 kn, .string ks, .int .i64 ka] := hI 70 (by simp)
                    show Brings Try.prog (fun v w' => Turned (fun _ => False) W w' ∧ v = .bool B71) _
                    rw [HB71.out]
                    simp only [execOp, Act.eval, h68, h70]
                    go_simp
                    try exact ⟨Turned.refl _ _, rfl⟩
                case s4 =>
                  refine stepOk_free [71] [] (by kernel_rfl) rfl ?_
                  · intro ac W hT hI hO
                    have h71 : ac.tmps.getD 71 undef = .bool B71 := hI 71 (by simp)
                    show Brings Try.prog (fun v w' => Turned (fun _ => False) W w' ∧ v = .bool B71) _
                    simp only [execOp, Act.eval, h71]
                    go_simp
                    try exact ⟨Turned.refl _ _, rfl⟩
                case s5 =>
                  refine stepOk_guard [72] [11] (by kernel_rfl) 4 true 72 rfl rfl (by simp) true B71 (fun _ _ h => h) (fun hc => ?_) (fun hc _ => ?_)
                  rotate_left
                  · show undef = bif (true && (B71 == true)) then _ else undef
                    rw [hc]; rfl
                  · intro ac W hT hI hO
                    have h72 : ac.tmps.getD 72 undef = .bool B71 := hI 72 (by simp)
                    have h11 : ac.tmps.getD 11 undef = .pointer (some ⟨w11.heap.size, 0, none⟩) := hO 11 (by simp)
                    show Brings Try.prog (fun v w' => Turned (fun _ => False) W w' ∧ v = bif (true && (B71 == true)) then .agg #[.int .i64 kk, .int .i64 kn, .string ks, .int .i64 ka] else undef) _
                    rw [hc, cond_true]
                    obtain ⟨_, ⟨x0, x1, x2, x3⟩, ⟨y0, y1, y2, y3⟩, ⟨z0, z1, z2, z3⟩⟩ := HKP.out W hT
                    simp only [execOp, Act.eval, h72, h11]
                    go_simp
                    exact ⟨Turned.refl _ _, rfl⟩
                case s6 =>
                  refine stepOk_guard [72] [11] (by kernel_rfl) 4 true 72 rfl rfl (by simp) true B71 (fun _ _ h => h) (fun hc => ?_) (fun hc _ => ?_)
                  rotate_left
                  · show undef = bif (true && (B71 == true)) then _ else undef
                    rw [hc]; rfl
                  · intro ac W hT hI hO
                    have h72 : ac.tmps.getD 72 undef = .bool B71 := hI 72 (by simp)
                    have h11 : ac.tmps.getD 11 undef = .pointer (some ⟨w11.heap.size, 0, none⟩) := hO 11 (by simp)
                    show Brings Try.prog (fun v w' => Turned (fun _ => False) W w' ∧ v = bif (true && (B71 == true)) then .agg #[.int .i64 kk, .int .i64 kn, .string ks, .int .i64 ka] else undef) _
                    rw [hc, cond_true]
                    obtain ⟨_, ⟨x0, x1, x2, x3⟩, ⟨y0, y1, y2, y3⟩, ⟨z0, z1, z2, z3⟩⟩ := HKP.out W hT
                    simp only [execOp, Act.eval, h72, h11]
                    go_simp
                    exact ⟨Turned.refl _ _, rfl⟩
                case s7 =>
                  refine stepOk_guard [73, 74, 72] [] (by kernel_rfl) 4 true 72 rfl rfl (by simp) true B71 (fun _ _ h => h) (fun hc => ?_) (fun hc _ => ?_)
                  rotate_left
                  · show undef = bif (true && (B71 == true)) then _ else undef
                    rw [hc]; rfl
                  · intro ac W hT hI hO
                    have h73 : ac.tmps.getD 73 undef = bif (true && (B71 == true)) then .agg #[.int .i64 kk, .int .i64 kn, .string ks, .int .i64 ka] else undef := hI 73 (by simp)
                    rw [hc, cond_true] at h73
                    have h74 : ac.tmps.getD 74 undef = bif (true && (B71 == true)) then .agg #[.int .i64 kk, .int .i64 kn, .string ks, .int .i64 ka] else undef := hI 74 (by simp)
                    rw [hc, cond_true] at h74
                    have h72 : ac.tmps.getD 72 undef = .bool B71 := hI 72 (by simp)
                    show Brings Try.prog (fun v w' => Turned (fun _ => False) W w' ∧ v = bif (true && (B71 == true)) then .bool true else undef) _
                    rw [hc, cond_true]
                    simp only [execOp, Act.eval, h73, h74, h72]
                    go_simp
                    show Calls Try.prog 43 _ W _
                    (with_reducible refine (HMAY.out W).mono ?_)
                    rintro e w14 ⟨rfl, T14'⟩
                    exact ⟨_, rfl, T14', rfl⟩
                case s8 =>
                  refine stepOk_free [72, 75] [] (by kernel_rfl) rfl ?_
                  · intro ac W hT hI hO
                    have h72 : ac.tmps.getD 72 undef = .bool B71 := hI 72 (by simp)
                    have h75 : ac.tmps.getD 75 undef = bif (true && (B71 == true)) then .bool true else undef := hI 75 (by simp)
                    show Brings Try.prog (fun v w' => Turned (fun _ => False) W w' ∧ v = .bool B76) _
                    rw [HB76.out]
                    cases hB : B71
                    · simp only [hB] at *
                      simp [execOp, Act.eval, go_sem, Brings, h72, h75]
                      try exact Turned.refl _ _
                    · simp only [hB] at *
                      simp [execOp, Act.eval, go_sem, Brings, h72, h75]
                      try exact Turned.refl _ _
                case s9 =>
                  refine stepOk_free [76] [] (by kernel_rfl) rfl ?_
                  · intro ac W hT hI hO
                    have h76 : ac.tmps.getD 76 undef = .bool B76 := hI 76 (by simp)
                    show Brings Try.prog (fun v w' => Turned (fun _ => False) W w' ∧ v = .bool B76) _
                    simp only [execOp, Act.eval, h76]
                    go_simp
                    try exact ⟨Turned.refl _ _, rfl⟩
                case s10 =>
                  refine stepOk_guard [77] [11] (by kernel_rfl) 9 true 77 rfl rfl (by simp) true B76 (fun _ _ h => h) (fun hc => ?_) (fun hc _ => ?_)
                  rotate_left
                  · show undef = bif (true && (B76 == true)) then _ else undef
                    rw [hc]; rfl
                  · intro ac W hT hI hO
                    have h77 : ac.tmps.getD 77 undef = .bool B76 := hI 77 (by simp)
                    have h11 : ac.tmps.getD 11 undef = .pointer (some ⟨w11.heap.size, 0, none⟩) := hO 11 (by simp)
                    show Brings Try.prog (fun v w' => Turned (fun _ => False) W w' ∧ v = bif (true && (B76 == true)) then .pointer (some ⟨w11.heap.size, 0, none⟩) else undef) _
                    rw [hc, cond_true]
                    simp only [execOp, Act.eval, h77, h11]
                    go_simp
                    try exact ⟨Turned.refl _ _, rfl⟩
                case s11 =>
                  refine stepOk_guard [78, 77] [] (by kernel_rfl) 9 true 77 rfl rfl (by simp) true B76 (fun _ _ h => h) (fun hc => ?_) (fun hc _ => ?_)
                  rotate_left
                  · show undef = bif (true && (B76 == true)) then _ else undef
                    rw [hc]; rfl
                  · intro ac W hT hI hO
                    have h78 : ac.tmps.getD 78 undef = bif (true && (B76 == true)) then .pointer (some ⟨w11.heap.size, 0, none⟩) else undef := hI 78 (by simp)
                    rw [hc, cond_true] at h78
                    have h77 : ac.tmps.getD 77 undef = .bool B76 := hI 77 (by simp)
                    show Brings Try.prog (fun v w' => Turned (fun _ => False) W w' ∧ v = bif (true && (B76 == true)) then .int .i64 kk else undef) _
                    rw [hc, cond_true]
                    obtain ⟨_, ⟨x0, x1, x2, x3⟩, ⟨y0, y1, y2, y3⟩, ⟨z0, z1, z2, z3⟩⟩ := HKP.out W hT
                    simp only [execOp, Act.eval, h78, h77]
                    go_simp
                    exact ⟨Turned.refl _ _, rfl⟩
                case s12 =>
                  refine stepOk_guard [79, 77] [] (by kernel_rfl) 9 true 77 rfl rfl (by simp) true B76 (fun _ _ h => h) (fun hc => ?_) (fun hc _ => ?_)
                  rotate_left
                  · show undef = bif (true && (B76 == true)) then _ else undef
                    rw [hc]; rfl
                  · intro ac W hT hI hO
                    have h79 : ac.tmps.getD 79 undef = bif (true && (B76 == true)) then .int .i64 kk else undef := hI 79 (by simp)
                    rw [hc, cond_true] at h79
                    have h77 : ac.tmps.getD 77 undef = .bool B76 := hI 77 (by simp)
                    show Brings Try.prog (fun v w' => Turned (fun _ => False) W w' ∧ v = bif (true && (B76 == true)) then .bool B80 else undef) _
                    rw [hc, cond_true]
                    rw [HB80.out]
                    simp only [execOp, Act.eval, h79, h77]
                    go_simp
                    try exact ⟨Turned.refl _ _, rfl⟩
                case s13 =>
                  refine stepOk_guard [77] [3] (by kernel_rfl) 9 true 77 rfl rfl (by simp) true B76 (fun _ _ h => h) (fun hc => ?_) (fun hc _ => ?_)
                  rotate_left
                  · show undef = bif (true && (B76 == true)) then _ else undef
                    rw [hc]; rfl
                  · intro ac W hT hI hO
                    have h77 : ac.tmps.getD 77 undef = .bool B76 := hI 77 (by simp)
                    have h3 : ac.tmps.getD 3 undef = .pointer (some ⟨w.heap.size, 0, none⟩) := hO 3 (by simp)
                    show Brings Try.prog (fun v w' => Turned (fun _ => False) W w' ∧ v = bif (true && (B76 == true)) then .pointer (some ⟨w.heap.size, 0, none⟩) else undef) _
                    rw [hc, cond_true]
                    simp only [execOp, Act.eval, h77, h3]
                    go_simp
                    try exact ⟨Turned.refl _ _, rfl⟩
                case s14 =>
                  refine stepOk_guard [81, 77] [] (by kernel_rfl) 9 true 77 rfl rfl (by simp) true B76 (fun _ _ h => h) (fun hc => ?_) (fun hc _ => ?_)
                  rotate_left
                  · show undef = bif (true && (B76 == true)) then _ else undef
                    rw [hc]; rfl
                  · intro ac W hT hI hO
                    have h81 : ac.tmps.getD 81 undef = bif (true && (B76 == true)) then .pointer (some ⟨w.heap.size, 0, none⟩) else undef := hI 81 (by simp)
                    rw [hc, cond_true] at h81
                    have h77 : ac.tmps.getD 77 undef = .bool B76 := hI 77 (by simp)
                    show Brings Try.prog (fun v w' => Turned (fun _ => False) W w' ∧ v = bif (true && (B76 == true)) then .int .i64 a.kind else undef) _
                    rw [hc, cond_true]
                    obtain ⟨_, ⟨x0, x1, x2, x3⟩, ⟨y0, y1, y2, y3⟩, ⟨z0, z1, z2, z3⟩⟩ := HKP.out W hT
                    simp only [execOp, Act.eval, h81, h77]
                    go_simp
                    exact ⟨Turned.refl _ _, rfl⟩
                case s15 =>
                  refine stepOk_guard [82, 77] [] (by kernel_rfl) 9 true 77 rfl rfl (by simp) true B76 (fun _ _ h => h) (fun hc => ?_) (fun hc _ => ?_)
                  rotate_left
                  · show undef = bif (true && (B76 == true)) then _ else undef
                    rw [hc]; rfl
                  · intro ac W hT hI hO
                    have h82 : ac.tmps.getD 82 undef = bif (true && (B76 == true)) then .int .i64 a.kind else undef := hI 82 (by simp)
                    rw [hc, cond_true] at h82
                    have h77 : ac.tmps.getD 77 undef = .bool B76 := hI 77 (by simp)
                    show Brings Try.prog (fun v w' => Turned (fun _ => False) W w' ∧ v = bif (true && (B76 == true)) then .bool B83 else undef) _
                    rw [hc, cond_true]
                    rw [HB83.out]
                    simp only [execOp, Act.eval, h82, h77]
                    go_simp
                    try exact ⟨Turned.refl _ _, rfl⟩
                case s16 =>
                  refine stepOk_guard [80, 83, 77] [] (by kernel_rfl) 9 true 77 rfl rfl (by simp) true B76 (fun _ _ h => h) (fun hc => ?_) (fun hc _ => ?_)
                  rotate_left
                  · show undef = bif (true && (B76 == true)) then _ else undef
                    rw [hc]; rfl
                  · intro ac W hT hI hO
                    have h80 : ac.tmps.getD 80 undef = bif (true && (B76 == true)) then .bool B80 else undef := hI 80 (by simp)
                    rw [hc, cond_true] at h80
                    have h83 : ac.tmps.getD 83 undef = bif (true && (B76 == true)) then .bool B83 else undef := hI 83 (by simp)
                    rw [hc, cond_true] at h83
                    have h77 : ac.tmps.getD 77 undef = .bool B76 := hI 77 (by simp)
                    show Brings Try.prog (fun v w' => Turned (fun _ => False) W w' ∧ v = bif (true && (B76 == true)) then .bool B84 else undef) _
                    rw [hc, cond_true]
                    rw [HB84.out]
                    simp only [execOp, Act.eval, h80, h83, h77]
                    go_simp
                    try exact ⟨Turned.refl _ _, rfl⟩
                case s17 =>
                  refine stepOk_free [77, 84] [] (by kernel_rfl) rfl ?_
                  · intro ac W hT hI hO
                    have h77 : ac.tmps.getD 77 undef = .bool B76 := hI 77 (by simp)
                    have h84 : ac.tmps.getD 84 undef = bif (true && (B76 == true)) then .bool B84 else undef := hI 84 (by simp)
                    show Brings Try.prog (fun v w' => Turned (fun _ => False) W w' ∧ v = .bool B85) _
                    rw [HB85.out]
                    cases hB : B76
                    · simp only [hB] at *
                      simp [execOp, Act.eval, go_sem, Brings, h77, h84]
                      try exact Turned.refl _ _
                    · simp only [hB] at *
                      simp [execOp, Act.eval, go_sem, Brings, h77, h84]
                      try exact Turned.refl _ _
                case s18 =>
                  refine stepOk_free [85] [] (by kernel_rfl) rfl ?_
                  · intro ac W hT hI hO
                    have h85 : ac.tmps.getD 85 undef = .bool B85 := hI 85 (by simp)
                    show Brings Try.prog (fun v w' => Turned (fun _ => False) W w' ∧ v = .bool B85) _
                    simp only [execOp, Act.eval, h85]
                    go_simp
                    try exact ⟨Turned.refl _ _, rfl⟩
                case s19 =>
                  refine stepOk_guard [86] [11] (by kernel_rfl) 18 true 86 rfl rfl (by simp) true B85 (fun _ _ h => h) (fun hc => ?_) (fun hc _ => ?_)
                  rotate_left
                  · show undef = bif (true && (B85 == true)) then _ else undef
                    rw [hc]; rfl
                  · intro ac W hT hI hO
                    have h86 : ac.tmps.getD 86 undef = .bool B85 := hI 86 (by simp)
                    have h11 : ac.tmps.getD 11 undef = .pointer (some ⟨w11.heap.size, 0, none⟩) := hO 11 (by simp)
                    show Brings Try.prog (fun v w' => Turned (fun _ => False) W w' ∧ v = bif (true && (B85 == true)) then .pointer (some ⟨w11.heap.size, 0, none⟩) else undef) _
                    rw [hc, cond_true]
                    simp only [execOp, Act.eval, h86, h11]
                    go_simp
                    try exact ⟨Turned.refl _ _, rfl⟩
                case s20 =>
                  refine stepOk_guard [87, 86] [] (by kernel_rfl) 18 true 86 rfl rfl (by simp) true B85 (fun _ _ h => h) (fun hc => ?_) (fun hc _ => ?_)
                  rotate_left
                  · show undef = bif (true && (B85 == true)) then _ else undef
                    rw [hc]; rfl
                  · intro ac W hT hI hO
                    have h87 : ac.tmps.getD 87 undef = bif (true && (B85 == true)) then .pointer (some ⟨w11.heap.size, 0, none⟩) else undef := hI 87 (by simp)
                    rw [hc, cond_true] at h87
                    have h86 : ac.tmps.getD 86 undef = .bool B85 := hI 86 (by simp)
                    show Brings Try.prog (fun v w' => Turned (fun _ => False) W w' ∧ v = bif (true && (B85 == true)) then .int .i64 kk else undef) _
                    rw [hc, cond_true]
                    obtain ⟨_, ⟨x0, x1, x2, x3⟩, ⟨y0, y1, y2, y3⟩, ⟨z0, z1, z2, z3⟩⟩ := HKP.out W hT
                    simp only [execOp, Act.eval, h87, h86]
                    go_simp
                    exact ⟨Turned.refl _ _, rfl⟩
                case s21 =>
                  refine stepOk_guard [88, 86] [] (by kernel_rfl) 18 true 86 rfl rfl (by simp) true B85 (fun _ _ h => h) (fun hc => ?_) (fun hc _ => ?_)
                  rotate_left
                  · show undef = bif (true && (B85 == true)) then _ else undef
                    rw [hc]; rfl
                  · intro ac W hT hI hO
                    have h88 : ac.tmps.getD 88 undef = bif (true && (B85 == true)) then .int .i64 kk else undef := hI 88 (by simp)
                    rw [hc, cond_true] at h88
                    have h86 : ac.tmps.getD 86 undef = .bool B85 := hI 86 (by simp)
                    show Brings Try.prog (fun v w' => Turned (fun _ => False) W w' ∧ v = bif (true && (B85 == true)) then .bool B89 else undef) _
                    rw [hc, cond_true]
                    rw [HB89.out]
                    simp only [execOp, Act.eval, h88, h86]
                    go_simp
                    try exact ⟨Turned.refl _ _, rfl⟩
                case s22 =>
                  refine stepOk_guard [89, 86] [] (by kernel_rfl) 18 true 86 rfl rfl (by simp) true B85 (fun _ _ h => h) (fun hc => ?_) (fun hc _ => ?_)
                  rotate_left
                  · show undef = bif (true && (B85 == true)) then _ else undef
                    rw [hc]; rfl
                  · intro ac W hT hI hO
                    have h89 : ac.tmps.getD 89 undef = bif (true && (B85 == true)) then .bool B89 else undef := hI 89 (by simp)
                    rw [hc, cond_true] at h89
                    have h86 : ac.tmps.getD 86 undef = .bool B85 := hI 86 (by simp)
                    show Brings Try.prog (fun v w' => Turned (fun _ => False) W w' ∧ v = bif (true && (B85 == true)) then .bool B89 else undef) _
                    rw [hc, cond_true]
                    simp only [execOp, Act.eval, h89, h86]
                    go_simp
                    try exact ⟨Turned.refl _ _, rfl⟩
                case s23 =>
                  refine stepOk_guard [90] [11] (by kernel_rfl) 22 false 90 rfl rfl (by simp) (true && (B85 == true)) B89 (fun _ _ h => h) (fun hc => ?_) (fun hc _ => ?_)
                  rotate_left
                  · show undef = bif ((true && (B85 == true)) && (B89 == false)) then _ else undef
                    rw [hc]; rfl
                  · intro ac W hT hI hO
                    have h90 : ac.tmps.getD 90 undef = bif (true && (B85 == true)) then .bool B89 else undef := hI 90 (by simp)
                    rw [show (true && (B85 == true)) = true from by simp only [Bool.and_eq_true] at hc ⊢; simp [hc]] at h90
                    have h11 : ac.tmps.getD 11 undef = .pointer (some ⟨w11.heap.size, 0, none⟩) := hO 11 (by simp)
                    show Brings Try.prog (fun v w' => Turned (fun _ => False) W w' ∧ v = bif ((true && (B85 == true)) && (B89 == false)) then .pointer (some ⟨w11.heap.size, 1, none⟩) else undef) _
                    rw [hc, cond_true]
                    simp only [execOp, Act.eval, h90, h11]
                    go_simp
                    try exact ⟨Turned.refl _ _, rfl⟩
                case s24 =>
                  refine stepOk_guard [91, 90] [] (by kernel_rfl) 22 false 90 rfl rfl (by simp) (true && (B85 == true)) B89 (fun _ _ h => h) (fun hc => ?_) (fun hc _ => ?_)
                  rotate_left
                  · show undef = bif ((true && (B85 == true)) && (B89 == false)) then _ else undef
                    rw [hc]; rfl
                  · intro ac W hT hI hO
                    have h91 : ac.tmps.getD 91 undef = bif ((true && (B85 == true)) && (B89 == false)) then .pointer (some ⟨w11.heap.size, 1, none⟩) else undef := hI 91 (by simp)
                    rw [hc, cond_true] at h91
                    have h90 : ac.tmps.getD 90 undef = bif (true && (B85 == true)) then .bool B89 else undef := hI 90 (by simp)
                    rw [show (true && (B85 == true)) = true from by simp only [Bool.and_eq_true] at hc ⊢; simp [hc]] at h90
                    show Brings Try.prog (fun v w' => Turned (fun _ => False) W w' ∧ v = bif ((true && (B85 == true)) && (B89 == false)) then .int .i64 kn else undef) _
                    rw [hc, cond_true]
                    obtain ⟨_, ⟨x0, x1, x2, x3⟩, ⟨y0, y1, y2, y3⟩, ⟨z0, z1, z2, z3⟩⟩ := HKP.out W hT
                    simp only [execOp, Act.eval, h91, h90]
                    go_simp
                    exact ⟨Turned.refl _ _, rfl⟩
                case s25 =>
                  refine stepOk_guard [90] [3] (by kernel_rfl) 22 false 90 rfl rfl (by simp) (true && (B85 == true)) B89 (fun _ _ h => h) (fun hc => ?_) (fun hc _ => ?_)
                  rotate_left
                  · show undef = bif ((true && (B85 == true)) && (B89 == false)) then _ else undef
                    rw [hc]; rfl
                  · intro ac W hT hI hO
                    have h90 : ac.tmps.getD 90 undef = bif (true && (B85 == true)) then .bool B89 else undef := hI 90 (by simp)
                    rw [show (true && (B85 == true)) = true from by simp only [Bool.and_eq_true] at hc ⊢; simp [hc]] at h90
                    have h3 : ac.tmps.getD 3 undef = .pointer (some ⟨w.heap.size, 0, none⟩) := hO 3 (by simp)
                    show Brings Try.prog (fun v w' => Turned (fun _ => False) W w' ∧ v = bif ((true && (B85 == true)) && (B89 == false)) then .pointer (some ⟨w.heap.size, 1, none⟩) else undef) _
                    rw [hc, cond_true]
                    simp only [execOp, Act.eval, h90, h3]
                    go_simp
                    try exact ⟨Turned.refl _ _, rfl⟩
                case s26 =>
                  refine stepOk_guard [93, 90] [] (by kernel_rfl) 22 false 90 rfl rfl (by simp) (true && (B85 == true)) B89 (fun _ _ h => h) (fun hc => ?_) (fun hc _ => ?_)
                  rotate_left
                  · show undef = bif ((true && (B85 == true)) && (B89 == false)) then _ else undef
                    rw [hc]; rfl
                  · intro ac W hT hI hO
                    have h93 : ac.tmps.getD 93 undef = bif ((true && (B85 == true)) && (B89 == false)) then .pointer (some ⟨w.heap.size, 1, none⟩) else undef := hI 93 (by simp)
                    rw [hc, cond_true] at h93
                    have h90 : ac.tmps.getD 90 undef = bif (true && (B85 == true)) then .bool B89 else undef := hI 90 (by simp)
                    rw [show (true && (B85 == true)) = true from by simp only [Bool.and_eq_true] at hc ⊢; simp [hc]] at h90
                    show Brings Try.prog (fun v w' => Turned (fun _ => False) W w' ∧ v = bif ((true && (B85 == true)) && (B89 == false)) then .int .i64 a.n else undef) _
                    rw [hc, cond_true]
                    obtain ⟨_, ⟨x0, x1, x2, x3⟩, ⟨y0, y1, y2, y3⟩, ⟨z0, z1, z2, z3⟩⟩ := HKP.out W hT
                    simp only [execOp, Act.eval, h93, h90]
                    go_simp
                    exact ⟨Turned.refl _ _, rfl⟩
                case s27 =>
                  refine stepOk_guard [92, 94, 90] [] (by kernel_rfl) 22 false 90 rfl rfl (by simp) (true && (B85 == true)) B89 (fun _ _ h => h) (fun hc => ?_) (fun hc _ => ?_)
                  rotate_left
                  · show undef = bif ((true && (B85 == true)) && (B89 == false)) then _ else undef
                    rw [hc]; rfl
                  · intro ac W hT hI hO
                    have h92 : ac.tmps.getD 92 undef = bif ((true && (B85 == true)) && (B89 == false)) then .int .i64 kn else undef := hI 92 (by simp)
                    rw [hc, cond_true] at h92
                    have h94 : ac.tmps.getD 94 undef = bif ((true && (B85 == true)) && (B89 == false)) then .int .i64 a.n else undef := hI 94 (by simp)
                    rw [hc, cond_true] at h94
                    have h90 : ac.tmps.getD 90 undef = bif (true && (B85 == true)) then .bool B89 else undef := hI 90 (by simp)
                    rw [show (true && (B85 == true)) = true from by simp only [Bool.and_eq_true] at hc ⊢; simp [hc]] at h90
                    show Brings Try.prog (fun v w' => Turned (fun _ => False) W w' ∧ v = bif ((true && (B85 == true)) && (B89 == false)) then .bool B95 else undef) _
                    rw [hc, cond_true]
                    rw [HB95.out]
                    simp only [execOp, Act.eval, h92, h94, h90]
                    go_simp
                    try exact ⟨Turned.refl _ _, rfl⟩
                case s28 =>
                  refine stepOk_guard [90, 95, 86] [] (by kernel_rfl) 18 true 86 rfl rfl (by simp) true B85 (fun _ _ h => h) (fun hc => ?_) (fun hc _ => ?_)
                  rotate_left
                  · show undef = bif (true && (B85 == true)) then _ else undef
                    rw [hc]; rfl
                  · intro ac W hT hI hO
                    have h90 : ac.tmps.getD 90 undef = bif (true && (B85 == true)) then .bool B89 else undef := hI 90 (by simp)
                    rw [hc, cond_true] at h90
                    have h95 : ac.tmps.getD 95 undef = bif ((true && (B85 == true)) && (B89 == false)) then .bool B95 else undef := hI 95 (by simp)
                    have h86 : ac.tmps.getD 86 undef = .bool B85 := hI 86 (by simp)
                    show Brings Try.prog (fun v w' => Turned (fun _ => False) W w' ∧ v = bif (true && (B85 == true)) then .bool B96 else undef) _
                    rw [hc, cond_true]
                    rw [HB96.out]
                    simp only [Bool.true_and, Bool.and_eq_true, beq_iff_eq] at hc
                    cases hB : B89
                    · simp only [hB] at *
                      simp [execOp, Act.eval, go_sem, Brings, h90, h95, h86, hc]
                      try exact Turned.refl _ _
                    · simp only [hB] at *
                      simp [execOp, Act.eval, go_sem, Brings, h90, h95, h86, hc]
                      try exact Turned.refl _ _
                case s29 =>
                  refine stepOk_free [86, 96] [] (by kernel_rfl) rfl ?_
                  · intro ac W hT hI hO
                    have h86 : ac.tmps.getD 86 undef = .bool B85 := hI 86 (by simp)
                    have h96 : ac.tmps.getD 96 undef = bif (true && (B85 == true)) then .bool B96 else undef := hI 96 (by simp)
                    show Brings Try.prog (fun v w' => Turned (fun _ => False) W w' ∧ v = .bool B97) _
                    rw [HB97.out]
                    cases hB : B85
                    · simp only [hB] at *
                      simp [execOp, Act.eval, go_sem, Brings, h86, h96]
                      try exact Turned.refl _ _
                    · simp only [hB] at *
                      simp [execOp, Act.eval, go_sem, Brings, h86, h96]
                      try exact Turned.refl _ _
                case s30 =>
                  refine stepOk_free [97] [] (by kernel_rfl) rfl ?_
                  · intro ac W hT hI hO
                    have h97 : ac.tmps.getD 97 undef = .bool B97 := hI 97 (by simp)
                    show Brings Try.prog (fun v w' => Turned (fun _ => False) W w' ∧ v = .bool B97) _
                    simp only [execOp, Act.eval, h97]
                    go_simp
                    try exact ⟨Turned.refl _ _, rfl⟩
                case s31 =>
                  refine stepOk_guard [98] [11] (by kernel_rfl) 30 true 98 rfl rfl (by simp) true B97 (fun _ _ h => h) (fun hc => ?_) (fun hc _ => ?_)
                  rotate_left
                  · show undef = bif (true && (B97 == true)) then _ else undef
                    rw [hc]; rfl
                  · intro ac W hT hI hO
                    have h98 : ac.tmps.getD 98 undef = .bool B97 := hI 98 (by simp)
                    have h11 : ac.tmps.getD 11 undef = .pointer (some ⟨w11.heap.size, 0, none⟩) := hO 11 (by simp)
                    show Brings Try.prog (fun v w' => Turned (fun _ => False) W w' ∧ v = bif (true && (B97 == true)) then .pointer (some ⟨w11.heap.size, 0, none⟩) else undef) _
                    rw [hc, cond_true]
                    simp only [execOp, Act.eval, h98, h11]
                    go_simp
                    try exact ⟨Turned.refl _ _, rfl⟩
                case s32 =>
                  refine stepOk_guard [99, 98] [] (by kernel_rfl) 30 true 98 rfl rfl (by simp) true B97 (fun _ _ h => h) (fun hc => ?_) (fun hc _ => ?_)
                  rotate_left
                  · show undef = bif (true && (B97 == true)) then _ else undef
                    rw [hc]; rfl
                  · intro ac W hT hI hO
                    have h99 : ac.tmps.getD 99 undef = bif (true && (B97 == true)) then .pointer (some ⟨w11.heap.size, 0, none⟩) else undef := hI 99 (by simp)
                    rw [hc, cond_true] at h99
                    have h98 : ac.tmps.getD 98 undef = .bool B97 := hI 98 (by simp)
                    show Brings Try.prog (fun v w' => Turned (fun _ => False) W w' ∧ v = bif (true && (B97 == true)) then .int .i64 kk else undef) _
                    rw [hc, cond_true]
                    obtain ⟨_, ⟨x0, x1, x2, x3⟩, ⟨y0, y1, y2, y3⟩, ⟨z0, z1, z2, z3⟩⟩ := HKP.out W hT
                    simp only [execOp, Act.eval, h99, h98]
                    go_simp
                    exact ⟨Turned.refl _ _, rfl⟩
                case s33 =>
                  refine stepOk_guard [100, 98] [] (by kernel_rfl) 30 true 98 rfl rfl (by simp) true B97 (fun _ _ h => h) (fun hc => ?_) (fun hc _ => ?_)
                  rotate_left
                  · show undef = bif (true && (B97 == true)) then _ else undef
                    rw [hc]; rfl
                  · intro ac W hT hI hO
                    have h100 : ac.tmps.getD 100 undef = bif (true && (B97 == true)) then .int .i64 kk else undef := hI 100 (by simp)
                    rw [hc, cond_true] at h100
                    have h98 : ac.tmps.getD 98 undef = .bool B97 := hI 98 (by simp)
                    show Brings Try.prog (fun v w' => Turned (fun _ => False) W w' ∧ v = bif (true && (B97 == true)) then .bool B101 else undef) _
                    rw [hc, cond_true]
                    rw [HB101.out]
                    simp only [execOp, Act.eval, h100, h98]
                    go_simp
                    try exact ⟨Turned.refl _ _, rfl⟩
                case s34 =>
                  refine stepOk_guard [101, 98] [] (by kernel_rfl) 30 true 98 rfl rfl (by simp) true B97 (fun _ _ h => h) (fun hc => ?_) (fun hc _ => ?_)
                  rotate_left
                  · show undef = bif (true && (B97 == true)) then _ else undef
                    rw [hc]; rfl
                  · intro ac W hT hI hO
                    have h101 : ac.tmps.getD 101 undef = bif (true && (B97 == true)) then .bool B101 else undef := hI 101 (by simp)
                    rw [hc, cond_true] at h101
                    have h98 : ac.tmps.getD 98 undef = .bool B97 := hI 98 (by simp)
                    show Brings Try.prog (fun v w' => Turned (fun _ => False) W w' ∧ v = bif (true && (B97 == true)) then .bool B101 else undef) _
                    rw [hc, cond_true]
                    simp only [execOp, Act.eval, h101, h98]
                    go_simp
                    try exact ⟨Turned.refl _ _, rfl⟩
                case s35 =>
                  refine stepOk_guard [102] [11] (by kernel_rfl) 34 false 102 rfl rfl (by simp) (true && (B97 == true)) B101 (fun _ _ h => h) (fun hc => ?_) (fun hc _ => ?_)
                  rotate_left
                  · show undef = bif ((true && (B97 == true)) && (B101 == false)) then _ else undef
                    rw [hc]; rfl
                  · intro ac W hT hI hO
                    have h102 : ac.tmps.getD 102 undef = bif (true && (B97 == true)) then .bool B101 else undef := hI 102 (by simp)
                    rw [show (true && (B97 == true)) = true from by simp only [Bool.and_eq_true] at hc ⊢; simp [hc]] at h102
                    have h11 : ac.tmps.getD 11 undef = .pointer (some ⟨w11.heap.size, 0, none⟩) := hO 11 (by simp)
                    show Brings Try.prog (fun v w' => Turned (fun _ => False) W w' ∧ v = bif ((true && (B97 == true)) && (B101 == false)) then .pointer (some ⟨w11.heap.size, 2, none⟩) else undef) _
                    rw [hc, cond_true]
                    simp only [execOp, Act.eval, h102, h11]
                    go_simp
                    try exact ⟨Turned.refl _ _, rfl⟩
                case s36 =>
                  refine stepOk_guard [103, 102] [] (by kernel_rfl) 34 false 102 rfl rfl (by simp) (true && (B97 == true)) B101 (fun _ _ h => h) (fun hc => ?_) (fun hc _ => ?_)
                  rotate_left
                  · show undef = bif ((true && (B97 == true)) && (B101 == false)) then _ else undef
                    rw [hc]; rfl
                  · intro ac W hT hI hO
                    have h103 : ac.tmps.getD 103 undef = bif ((true && (B97 == true)) && (B101 == false)) then .pointer (some ⟨w11.heap.size, 2, none⟩) else undef := hI 103 (by simp)
                    rw [hc, cond_true] at h103
                    have h102 : ac.tmps.getD 102 undef = bif (true && (B97 == true)) then .bool B101 else undef := hI 102 (by simp)
                    rw [show (true && (B97 == true)) = true from by simp only [Bool.and_eq_true] at hc ⊢; simp [hc]] at h102
                    show Brings Try.prog (fun v w' => Turned (fun _ => False) W w' ∧ v = bif ((true && (B97 == true)) && (B101 == false)) then .string ks else undef) _
                    rw [hc, cond_true]
                    obtain ⟨_, ⟨x0, x1, x2, x3⟩, ⟨y0, y1, y2, y3⟩, ⟨z0, z1, z2, z3⟩⟩ := HKP.out W hT
                    simp only [execOp, Act.eval, h103, h102]
                    go_simp
                    exact ⟨Turned.refl _ _, rfl⟩
                case s37 =>
                  refine stepOk_guard [102] [3] (by kernel_rfl) 34 false 102 rfl rfl (by simp) (true && (B97 == true)) B101 (fun _ _ h => h) (fun hc => ?_) (fun hc _ => ?_)
                  rotate_left
                  · show undef = bif ((true && (B97 == true)) && (B101 == false)) then _ else undef
                    rw [hc]; rfl
                  · intro ac W hT hI hO
                    have h102 : ac.tmps.getD 102 undef = bif (true && (B97 == true)) then .bool B101 else undef := hI 102 (by simp)
                    rw [show (true && (B97 == true)) = true from by simp only [Bool.and_eq_true] at hc ⊢; simp [hc]] at h102
                    have h3 : ac.tmps.getD 3 undef = .pointer (some ⟨w.heap.size, 0, none⟩) := hO 3 (by simp)
                    show Brings Try.prog (fun v w' => Turned (fun _ => False) W w' ∧ v = bif ((true && (B97 == true)) && (B101 == false)) then .pointer (some ⟨w.heap.size, 2, none⟩) else undef) _
                    rw [hc, cond_true]
                    simp only [execOp, Act.eval, h102, h3]
                    go_simp
                    try exact ⟨Turned.refl _ _, rfl⟩
                case s38 =>
                  refine stepOk_guard [105, 102] [] (by kernel_rfl) 34 false 102 rfl rfl (by simp) (true && (B97 == true)) B101 (fun _ _ h => h) (fun hc => ?_) (fun hc _ => ?_)
                  rotate_left
                  · show undef = bif ((true && (B97 == true)) && (B101 == false)) then _ else undef
                    rw [hc]; rfl
                  · intro ac W hT hI hO
                    have h105 : ac.tmps.getD 105 undef = bif ((true && (B97 == true)) && (B101 == false)) then .pointer (some ⟨w.heap.size, 2, none⟩) else undef := hI 105 (by simp)
                    rw [hc, cond_true] at h105
                    have h102 : ac.tmps.getD 102 undef = bif (true && (B97 == true)) then .bool B101 else undef := hI 102 (by simp)
                    rw [show (true && (B97 == true)) = true from by simp only [Bool.and_eq_true] at hc ⊢; simp [hc]] at h102
                    show Brings Try.prog (fun v w' => Turned (fun _ => False) W w' ∧ v = bif ((true && (B97 == true)) && (B101 == false)) then .string a.name else undef) _
                    rw [hc, cond_true]
                    obtain ⟨_, ⟨x0, x1, x2, x3⟩, ⟨y0, y1, y2, y3⟩, ⟨z0, z1, z2, z3⟩⟩ := HKP.out W hT
                    simp only [execOp, Act.eval, h105, h102]
                    go_simp
                    exact ⟨Turned.refl _ _, rfl⟩
                case s39 =>
                  refine stepOk_guard [104, 106, 102] [] (by kernel_rfl) 34 false 102 rfl rfl (by simp) (true && (B97 == true)) B101 (fun _ _ h => h) (fun hc => ?_) (fun hc _ => ?_)
                  rotate_left
                  · show undef = bif ((true && (B97 == true)) && (B101 == false)) then _ else undef
                    rw [hc]; rfl
                  · intro ac W hT hI hO
                    have h104 : ac.tmps.getD 104 undef = bif ((true && (B97 == true)) && (B101 == false)) then .string ks else undef := hI 104 (by simp)
                    rw [hc, cond_true] at h104
                    have h106 : ac.tmps.getD 106 undef = bif ((true && (B97 == true)) && (B101 == false)) then .string a.name else undef := hI 106 (by simp)
                    rw [hc, cond_true] at h106
                    have h102 : ac.tmps.getD 102 undef = bif (true && (B97 == true)) then .bool B101 else undef := hI 102 (by simp)
                    rw [show (true && (B97 == true)) = true from by simp only [Bool.and_eq_true] at hc ⊢; simp [hc]] at h102
                    show Brings Try.prog (fun v w' => Turned (fun _ => False) W w' ∧ v = bif ((true && (B97 == true)) && (B101 == false)) then .bool B107 else undef) _
                    rw [hc, cond_true]
                    rw [HB107.out]
                    simp only [execOp, Act.eval, h104, h106, h102]
                    go_simp
                    try exact ⟨Turned.refl _ _, rfl⟩
                case s40 =>
                  refine stepOk_guard [107, 102] [] (by kernel_rfl) 34 false 102 rfl rfl (by simp) (true && (B97 == true)) B101 (fun _ _ h => h) (fun hc => ?_) (fun hc _ => ?_)
                  rotate_left
                  · show undef = bif ((true && (B97 == true)) && (B101 == false)) then _ else undef
                    rw [hc]; rfl
                  · intro ac W hT hI hO
                    have h107 : ac.tmps.getD 107 undef = bif ((true && (B97 == true)) && (B101 == false)) then .bool B107 else undef := hI 107 (by simp)
                    rw [hc, cond_true] at h107
                    have h102 : ac.tmps.getD 102 undef = bif (true && (B97 == true)) then .bool B101 else undef := hI 102 (by simp)
                    rw [show (true && (B97 == true)) = true from by simp only [Bool.and_eq_true] at hc ⊢; simp [hc]] at h102
                    show Brings Try.prog (fun v w' => Turned (fun _ => False) W w' ∧ v = bif ((true && (B97 == true)) && (B101 == false)) then .bool B107 else undef) _
                    rw [hc, cond_true]
                    simp only [execOp, Act.eval, h107, h102]
                    go_simp
                    try exact ⟨Turned.refl _ _, rfl⟩
                case s41 =>
                  refine stepOk_guard [108] [11] (by kernel_rfl) 40 true 108 rfl rfl (by simp) ((true && (B97 == true)) && (B101 == false)) B107 (fun _ _ h => h) (fun hc => ?_) (fun hc _ => ?_)
                  rotate_left
                  · show undef = bif (((true && (B97 == true)) && (B101 == false)) && (B107 == true)) then _ else undef
                    rw [hc]; rfl
                  · intro ac W hT hI hO
                    have h108 : ac.tmps.getD 108 undef = bif ((true && (B97 == true)) && (B101 == false)) then .bool B107 else undef := hI 108 (by simp)
                    rw [show ((true && (B97 == true)) && (B101 == false)) = true from by simp only [Bool.and_eq_true] at hc ⊢; simp [hc]] at h108
                    have h11 : ac.tmps.getD 11 undef = .pointer (some ⟨w11.heap.size, 0, none⟩) := hO 11 (by simp)
                    show Brings Try.prog (fun v w' => Turned (fun _ => False) W w' ∧ v = bif (((true && (B97 == true)) && (B101 == false)) && (B107 == true)) then .pointer (some ⟨w11.heap.size, 3, none⟩) else undef) _
                    rw [hc, cond_true]
                    simp only [execOp, Act.eval, h108, h11]
                    go_simp
                    try exact ⟨Turned.refl _ _, rfl⟩
                case s42 =>
                  refine stepOk_guard [109, 108] [] (by kernel_rfl) 40 true 108 rfl rfl (by simp) ((true && (B97 == true)) && (B101 == false)) B107 (fun _ _ h => h) (fun hc => ?_) (fun hc _ => ?_)
                  rotate_left
                  · show undef = bif (((true && (B97 == true)) && (B101 == false)) && (B107 == true)) then _ else undef
                    rw [hc]; rfl
                  · intro ac W hT hI hO
                    have h109 : ac.tmps.getD 109 undef = bif (((true && (B97 == true)) && (B101 == false)) && (B107 == true)) then .pointer (some ⟨w11.heap.size, 3, none⟩) else undef := hI 109 (by simp)
                    rw [hc, cond_true] at h109
                    have h108 : ac.tmps.getD 108 undef = bif ((true && (B97 == true)) && (B101 == false)) then .bool B107 else undef := hI 108 (by simp)
                    rw [show ((true && (B97 == true)) && (B101 == false)) = true from by simp only [Bool.and_eq_true] at hc ⊢; simp [hc]] at h108
                    show Brings Try.prog (fun v w' => Turned (fun _ => False) W w' ∧ v = bif (((true && (B97 == true)) && (B101 == false)) && (B107 == true)) then .int .i64 ka else undef) _
                    rw [hc, cond_true]
                    obtain ⟨_, ⟨x0, x1, x2, x3⟩, ⟨y0, y1, y2, y3⟩, ⟨z0, z1, z2, z3⟩⟩ := HKP.out W hT
                    simp only [execOp, Act.eval, h109, h108]
                    go_simp
                    exact ⟨Turned.refl _ _, rfl⟩
                case s43 =>
                  refine stepOk_guard [108] [3] (by kernel_rfl) 40 true 108 rfl rfl (by simp) ((true && (B97 == true)) && (B101 == false)) B107 (fun _ _ h => h) (fun hc => ?_) (fun hc _ => ?_)
                  rotate_left
                  · show undef = bif (((true && (B97 == true)) && (B101 == false)) && (B107 == true)) then _ else undef
                    rw [hc]; rfl
                  · intro ac W hT hI hO
                    have h108 : ac.tmps.getD 108 undef = bif ((true && (B97 == true)) && (B101 == false)) then .bool B107 else undef := hI 108 (by simp)
                    rw [show ((true && (B97 == true)) && (B101 == false)) = true from by simp only [Bool.and_eq_true] at hc ⊢; simp [hc]] at h108
                    have h3 : ac.tmps.getD 3 undef = .pointer (some ⟨w.heap.size, 0, none⟩) := hO 3 (by simp)
                    show Brings Try.prog (fun v w' => Turned (fun _ => False) W w' ∧ v = bif (((true && (B97 == true)) && (B101 == false)) && (B107 == true)) then .pointer (some ⟨w.heap.size, 3, none⟩) else undef) _
                    rw [hc, cond_true]
                    simp only [execOp, Act.eval, h108, h3]
                    go_simp
                    try exact ⟨Turned.refl _ _, rfl⟩
                case s44 =>
                  refine stepOk_guard [111, 108] [] (by kernel_rfl) 40 true 108 rfl rfl (by simp) ((true && (B97 == true)) && (B101 == false)) B107 (fun _ _ h => h) (fun hc => ?_) (fun hc _ => ?_)
                  rotate_left
                  · show undef = bif (((true && (B97 == true)) && (B101 == false)) && (B107 == true)) then _ else undef
                    rw [hc]; rfl
                  · intro ac W hT hI hO
                    have h111 : ac.tmps.getD 111 undef = bif (((true && (B97 == true)) && (B101 == false)) && (B107 == true)) then .pointer (some ⟨w.heap.size, 3, none⟩) else undef := hI 111 (by simp)
                    rw [hc, cond_true] at h111
                    have h108 : ac.tmps.getD 108 undef = bif ((true && (B97 == true)) && (B101 == false)) then .bool B107 else undef := hI 108 (by simp)
                    rw [show ((true && (B97 == true)) && (B101 == false)) = true from by simp only [Bool.and_eq_true] at hc ⊢; simp [hc]] at h108
                    show Brings Try.prog (fun v w' => Turned (fun _ => False) W w' ∧ v = bif (((true && (B97 == true)) && (B101 == false)) && (B107 == true)) then .slice a.at_.1 a.args.length a.at_.2 else undef) _
                    rw [hc, cond_true]
                    obtain ⟨_, ⟨x0, x1, x2, x3⟩, ⟨y0, y1, y2, y3⟩, ⟨z0, z1, z2, z3⟩⟩ := HKP.out W hT
                    simp only [execOp, Act.eval, h111, h108]
                    go_simp
                    exact ⟨Turned.refl _ _, rfl⟩
                case s45 =>
                  refine stepOk_guard [112, 108] [] (by kernel_rfl) 40 true 108 rfl rfl (by simp) ((true && (B97 == true)) && (B101 == false)) B107 (fun _ _ h => h) (fun hc => ?_) (fun hc _ => ?_)
                  rotate_left
                  · show undef = bif (((true && (B97 == true)) && (B101 == false)) && (B107 == true)) then _ else undef
                    rw [hc]; rfl
                  · intro ac W hT hI hO
                    have h112 : ac.tmps.getD 112 undef = bif (((true && (B97 == true)) && (B101 == false)) && (B107 == true)) then .slice a.at_.1 a.args.length a.at_.2 else undef := hI 112 (by simp)
                    rw [hc, cond_true] at h112
                    have h108 : ac.tmps.getD 108 undef = bif ((true && (B97 == true)) && (B101 == false)) then .bool B107 else undef := hI 108 (by simp)
                    rw [show ((true && (B97 == true)) && (B101 == false)) = true from by simp only [Bool.and_eq_true] at hc ⊢; simp [hc]] at h108
                    show Brings Try.prog (fun v w' => Turned (fun _ => False) W w' ∧ v = bif (((true && (B97 == true)) && (B101 == false)) && (B107 == true)) then .int .i64 (a.args.length : Int) else undef) _
                    rw [hc, cond_true]
                    simp only [execOp, Act.eval, h112, h108]
                    go_simp
                    try exact ⟨Turned.refl _ _, rfl⟩
                case s46 =>
                  refine stepOk_guard [110, 113, 108] [] (by kernel_rfl) 40 true 108 rfl rfl (by simp) ((true && (B97 == true)) && (B101 == false)) B107 (fun _ _ h => h) (fun hc => ?_) (fun hc _ => ?_)
                  rotate_left
                  · show undef = bif (((true && (B97 == true)) && (B101 == false)) && (B107 == true)) then _ else undef
                    rw [hc]; rfl
                  · intro ac W hT hI hO
                    have h110 : ac.tmps.getD 110 undef = bif (((true && (B97 == true)) && (B101 == false)) && (B107 == true)) then .int .i64 ka else undef := hI 110 (by simp)
                    rw [hc, cond_true] at h110
                    have h113 : ac.tmps.getD 113 undef = bif (((true && (B97 == true)) && (B101 == false)) && (B107 == true)) then .int .i64 (a.args.length : Int) else undef := hI 113 (by simp)
                    rw [hc, cond_true] at h113
                    have h108 : ac.tmps.getD 108 undef = bif ((true && (B97 == true)) && (B101 == false)) then .bool B107 else undef := hI 108 (by simp)
                    rw [show ((true && (B97 == true)) && (B101 == false)) = true from by simp only [Bool.and_eq_true] at hc ⊢; simp [hc]] at h108
                    show Brings Try.prog (fun v w' => Turned (fun _ => False) W w' ∧ v = bif (((true && (B97 == true)) && (B101 == false)) && (B107 == true)) then .bool B114 else undef) _
                    rw [hc, cond_true]
                    rw [HB114.out]
                    simp only [execOp, Act.eval, h110, h113, h108]
                    go_simp
                    try exact ⟨Turned.refl _ _, rfl⟩
                case s47 =>
                  refine stepOk_guard [108, 114, 102] [] (by kernel_rfl) 34 false 102 rfl rfl (by simp) (true && (B97 == true)) B101 (fun _ _ h => h) (fun hc => ?_) (fun hc _ => ?_)
                  rotate_left
                  · show undef = bif ((true && (B97 == true)) && (B101 == false)) then _ else undef
                    rw [hc]; rfl
                  · intro ac W hT hI hO
                    have h108 : ac.tmps.getD 108 undef = bif ((true && (B97 == true)) && (B101 == false)) then .bool B107 else undef := hI 108 (by simp)
                    rw [hc, cond_true] at h108
                    have h114 : ac.tmps.getD 114 undef = bif (((true && (B97 == true)) && (B101 == false)) && (B107 == true)) then .bool B114 else undef := hI 114 (by simp)
                    have h102 : ac.tmps.getD 102 undef = bif (true && (B97 == true)) then .bool B101 else undef := hI 102 (by simp)
                    show Brings Try.prog (fun v w' => Turned (fun _ => False) W w' ∧ v = bif ((true && (B97 == true)) && (B101 == false)) then .bool B115 else undef) _
                    rw [hc, cond_true]
                    rw [HB115.out]
                    simp only [Bool.true_and, Bool.and_eq_true, beq_iff_eq] at hc
                    cases hB : B107
                    · simp only [hB] at *
                      simp [execOp, Act.eval, go_sem, Brings, h108, h114, h102, hc]
                      try exact Turned.refl _ _
                    · simp only [hB] at *
                      simp [execOp, Act.eval, go_sem, Brings, h108, h114, h102, hc]
                      try exact Turned.refl _ _
                case s48 =>
                  refine stepOk_guard [102, 115, 98] [] (by kernel_rfl) 30 true 98 rfl rfl (by simp) true B97 (fun _ _ h => h) (fun hc => ?_) (fun hc _ => ?_)
                  rotate_left
                  · show undef = bif (true && (B97 == true)) then _ else undef
                    rw [hc]; rfl
                  · intro ac W hT hI hO
                    have h102 : ac.tmps.getD 102 undef = bif (true && (B97 == true)) then .bool B101 else undef := hI 102 (by simp)
                    rw [hc, cond_true] at h102
                    have h115 : ac.tmps.getD 115 undef = bif ((true && (B97 == true)) && (B101 == false)) then .bool B115 else undef := hI 115 (by simp)
                    have h98 : ac.tmps.getD 98 undef = .bool B97 := hI 98 (by simp)
                    show Brings Try.prog (fun v w' => Turned (fun _ => False) W w' ∧ v = bif (true && (B97 == true)) then .bool B116 else undef) _
                    rw [hc, cond_true]
                    rw [HB116.out]
                    simp only [Bool.true_and, Bool.and_eq_true, beq_iff_eq] at hc
                    cases hB : B101
                    · simp only [hB] at *
                      simp [execOp, Act.eval, go_sem, Brings, h102, h115, h98, hc]
                      try exact Turned.refl _ _
                    · simp only [hB] at *
                      simp [execOp, Act.eval, go_sem, Brings, h102, h115, h98, hc]
                      try exact Turned.refl _ _
                case s49 =>
                  refine stepOk_free [98, 116] [] (by kernel_rfl) rfl ?_
                  · intro ac W hT hI hO
                    have h98 : ac.tmps.getD 98 undef = .bool B97 := hI 98 (by simp)
                    have h116 : ac.tmps.getD 116 undef = bif (true && (B97 == true)) then .bool B116 else undef := hI 116 (by simp)
                    show Brings Try.prog (fun v w' => Turned (fun _ => False) W w' ∧ v = .bool B117) _
                    rw [HB117.out]
                    cases hB : B97
                    · simp only [hB] at *
                      simp [execOp, Act.eval, go_sem, Brings, h98, h116]
                      try exact Turned.refl _ _
                    · simp only [hB] at *
                      simp [execOp, Act.eval, go_sem, Brings, h98, h116]
                      try exact Turned.refl _ _
                case s50 =>
                  refine stepOk_free [117] [] (by kernel_rfl) rfl ?_
                  · intro ac W hT hI hO
                    have h117 : ac.tmps.getD 117 undef = .bool B117 := hI 117 (by simp)
                    show Brings Try.prog (fun v w' => Turned (fun _ => False) W w' ∧ v = .bool B117) _
                    simp only [execOp, Act.eval, h117]
                    go_simp
                    try exact ⟨Turned.refl _ _, rfl⟩
              case hQ =>
                intro vs w20 T20 hV
                have h6 : vs 6 = .bool B117 := hV 6 (by simp)
                have hlaw : B117 = true := by
                  simp only [HB117.out, HB116.out, HB115.out, HB114.out, HB107.out, HB101.out, HB97.out, HB96.out, HB95.out, HB89.out, HB85.out, HB84.out, HB83.out, HB80.out, HB76.out, HB71.out]
                  rcases hkind with h0 | h1 | h2
                  · have hkk := hk.out.trans (keyOf1_0 h0)
                    simp only [Key.mk.injEq, Key.zero] at hkk
                    obtain ⟨e1, e2, e3, e4⟩ := hkk
                    simp [e1, e2, e3, e4, h0]
                  · have hkk := hk.out.trans (keyOf1_1 h1)
                    simp only [Key.mk.injEq, Key.zero] at hkk
                    obtain ⟨e1, e2, e3, e4⟩ := hkk
                    simp [e1, e2, e3, e4, h1]
                  · have hkk := hk.out.trans (keyOf1_2 (by omega) (by omega))
                    simp only [Key.mk.injEq, Key.zero] at hkk
                    obtain ⟨e1, e2, e3, e4⟩ := hkk
                    simp [e1, e2, e3, e4, h2]
                rw [hlaw] at h6
                simp only [List.foldl_cons, List.foldl_nil, List.setIfInBounds_toArray, List.set_cons_zero, List.set_cons_succ, h6]
                clear hV h6 hlaw
                go_wp2_with fail
                go_ret
                exact ⟨rfl, T04.trans (t8.trans (T9.trans (T10.trans (T11.trans (((Turned.refl _ w11).alloc _).trans T20)))))⟩
            · go_ret
              exact ⟨rfl, T04.trans (t8.trans T9)⟩
end Go.Proofs.Ytoihjobdfjajfaa
