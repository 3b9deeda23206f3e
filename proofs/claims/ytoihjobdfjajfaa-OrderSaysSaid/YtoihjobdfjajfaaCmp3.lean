/- slices.CompareFunc with compare. -/
import Derived.Test.YtoihjobdfjajfaaCmp2
import Derived.Test.YtoihjobdfjajfaaRef1
namespace Go.Proofs.Ytoihjobdfjajfaa
set_option linter.unusedVariables false
set_option linter.unusedSimpArgs false
open Go.RowKit
theorem enter135 (args : Array Value) (w : World) : (callFunc 135 args).run Try.prog w = .ok (.enter 135 args) w := by kernel_rfl
theorem cmps_at {α β : Type} {l : List (Tm α)} {m : List (Tm β)} {j : Nat} {x : Tm α} {y : Tm β} (h : ∀ k a b, k < j → l[k]? = some a → m[k]? = some b → Tm.cmp a b = 0) (hx : l[j]? = some x) (hy : m[j]? = some y) (hn : Tm.cmp x y ≠ 0) : Tm.cmps l m = Tm.cmp x y := by
  induction l generalizing m j with
  | nil => simp at hx
  | cons a l ih =>
    cases m with
    | nil => simp at hy
    | cons b m =>
      cases j with
      | zero => simp at hx hy; subst hx hy; simp only [Tm.cmps]; exact Tm.orI_first hn
      | succ j =>
        simp at hx hy
        have h0 := h 0 a b (by omega) (by simp) (by simp)
        simp only [Tm.cmps]
        rw [Tm.orI_next h0]
        exact ih (fun k a b hk h1 h2 => h (k + 1) a b (by omega) (by simpa using h1) (by simpa using h2)) hx hy
theorem cmps_long {α β : Type} {l : List (Tm α)} {m : List (Tm β)} (h : ∀ (k : Nat) (a : Tm α) (b : Tm β), l[k]? = some a → m[k]? = some b → Tm.cmp a b = 0) : Tm.cmps l m = if m.length < l.length then 1 else if l.length < m.length then -1 else 0 := by
  induction l generalizing m with
  | nil => cases m <;> simp [Tm.cmps]
  | cons a l ih =>
    cases m with
    | nil => simp [Tm.cmps]
    | cons b m =>
      have h0 := h 0 a b (by simp) (by simp)
      simp only [Tm.cmps]
      rw [Tm.orI_next h0, ih (fun k a b h1 h2 => h (k + 1) a b (by simpa using h1) (by simpa using h2))]
      simp

set_option maxHeartbeats 1600000 in
theorem compareFunc168 {p : Nat → Prop} {l m : List LT} {a1 a2 : Option Addr} {c1 c2 : Nat} {w : World} (h1 : LT.Sl p w a1 c1 l) (h2 : LT.Sl p w a2 c2 m)
    (hcall : ∀ x : LT, x ∈ l → ∀ (y : LT) (W : World), x.In p W → y.In p W → Calls Try.prog 135 #[x.val, y.val] W fun e w' => e = .returned (.int .i64 (Tm.cmp x y)) ∧ Turned (fun _ => False) W w') :
    Calls Try.prog 168 #[.slice a1 l.length c1, .slice a2 m.length c2, .func (.func 135) #[] #[]] w fun e w' => e = .returned (.int .i64 (Tm.cmps l m)) ∧ Turned (fun _ => False) w w' := by
  have hc1 := h1.cap
  have hc2 := h2.cap
  have hm1 := h1.max
  have hm2 := h2.max
  unfold maxLen at hm1 hm2
  have henter := enter135
  have H1 := Lib.hid h1
  have H2 := Lib.hid h2
  have HC := Lib.hid hcall
  clear h1 h2 hcall
  go_enter Try.func168, Try.ntmps168
  go_wp2_with fail
  go_loopg [13] l.length (fun g i wr => ∃ j : Nat, Hid (j + g = l.length) ∧ j ≤ l.length ∧ j ≤ m.length ∧ i = .int .i64 j ∧ Hid (∀ k a b, k < j → l[k]? = some a → m[k]? = some b → Tm.cmp a b = 0) ∧ Turned (fun _ => False) w wr)
  case atStart => exact ⟨0, Nat.zero_add _, Nat.zero_le _, Nat.zero_le _, rfl, fun k a b hk => by omega, Turned.refl _ _⟩
  case round =>
    obtain ⟨j, HG, hj, hjm, rfl, HE, Tr⟩ := hrel
    by_cases hjl : j < l.length
    · have hx : l[j]? = some l[j] := List.getElem?_eq_getElem hjl
      obtain ⟨x, hxe⟩ : ∃ x : LT, x = l[j] := ⟨_, rfl⟩
      rw [← hxe] at hx
      clear hxe
      have xin := (LT.ins_iff _).1 (H1.out.turned0 Tr).ins x (List.mem_of_getElem? hx)
      obtain ⟨b1, o1, rfl, _, k0, k1, k2, k3⟩ := (H1.out.turned0 Tr).lies.cell hx
      by_cases hjy : j < m.length
      · have hy : m[j]? = some m[j] := List.getElem?_eq_getElem hjy
        obtain ⟨y, hye⟩ : ∃ y : LT, y = m[j] := ⟨_, rfl⟩
        rw [← hye] at hy
        clear hye
        have yin := (LT.ins_iff _).1 (H2.out.turned0 Tr).ins y (List.mem_of_getElem? hy)
        obtain ⟨b2, o2, rfl, _, q0, q1, q2, q3⟩ := (H2.out.turned0 Tr).lies.cell hy
        have q0 := cell_old (o := .cells #[.int .i64 x.kind, .int .i64 x.n, .string x.name, .slice x.at_.1 x.args.length x.at_.2] 27) q0
        have q1 := cell_old (o := .cells #[.int .i64 x.kind, .int .i64 x.n, .string x.name, .slice x.at_.1 x.args.length x.at_.2] 27) q1
        have q2 := cell_old (o := .cells #[.int .i64 x.kind, .int .i64 x.n, .string x.name, .slice x.at_.1 x.args.length x.at_.2] 27) q2
        have q3 := cell_old (o := .cells #[.int .i64 x.kind, .int .i64 x.n, .string x.name, .slice x.at_.1 x.args.length x.at_.2] 27) q3
        have hcx := fun u v => HC.out x (List.mem_of_getElem? hx) y ((wr.alloc u).alloc v) (xin.turned0 (((Turned.refl _ wr).alloc u).alloc v)) (yin.turned0 (((Turned.refl _ wr).alloc u).alloc v))
        rw [LT.val_eq x, LT.val_eq y] at hcx
        have HX := Lib.hid hx
        have HY := Lib.hid hy
        obtain ⟨c, hc⟩ : ∃ c, c = Tm.cmp x y := ⟨_, rfl⟩
        rw [← hc] at hcx
        have HCC := Lib.hid hc
        have HCX := Lib.hid hcx
        clear hx hy hcx xin yin hc
        by_cases hs : c = 0
        · have hsb : (c != 0) = false := by simp [hs]
          have HS := Lib.hid hs
          clear hs
          go_wp2_with (go_at_call 135; refine (HCX.out _ _).mono ?_; rintro e w2 ⟨rfl, T2⟩)
          go_roundg (gk - 1)
          case measure => have := HG.out; omega
          case rel =>
            refine ⟨j + 1, show _ = _ by have := HG.out; omega, by omega, by omega, by go_num, fun k a b hk ha hb => ?_, Tr.trans ((((Turned.refl _ wr).alloc _).alloc _).trans T2)⟩
            by_cases hkj : k = j
            · subst hkj
              have e1 := HX.out
              have e2 := HY.out
              rw [ha] at e1
              rw [hb] at e2
              injection e1 with e1
              injection e2 with e2
              rw [e1, e2, ← HCC.out]
              exact HS.out
            · exact HE.out k a b (by omega) ha hb
        · have hsb : (c != 0) = true := by simp [hs]
          have HS := Lib.hid hs
          clear hs
          go_wp2_with (go_at_call 135; refine (HCX.out _ _).mono ?_; rintro e w2 ⟨rfl, T2⟩)
          go_ret
          refine ⟨ret_int' ?_, Tr.trans ((((Turned.refl _ wr).alloc _).alloc _).trans T2)⟩
          rw [cmps_at HE.out HX.out HY.out (by rw [← HCC.out]; exact HS.out)]
          exact HCC.out
      · have hjm' : m.length ≤ j := by omega
        have hge : decide ((m.length : Int) ≤ (j : Int)) = true := by simp; omega
        go_wp2_with fail
        go_ret
        refine ⟨ret_int' ?_, Tr.trans ((Turned.refl _ wr).alloc _)⟩
        rw [cmps_long (fun k a b h1 h2 => HE.out k a b (by have := (List.getElem?_eq_some_iff.1 h2).1; omega) h1 h2), if_pos (by omega)]
    · have hje : j = l.length := by omega
      by_cases hlm : l.length < m.length
      · have hb : decide ((l.length : Int) < (m.length : Int)) = true := by simp; omega
        go_wp2_with fail
        go_ret
        refine ⟨ret_int' ?_, Tr⟩
        rw [cmps_long (fun k a b h1 h2 => HE.out k a b (by have := (List.getElem?_eq_some_iff.1 h1).1; omega) h1 h2), if_neg (by omega), if_pos hlm]
      · have hb : decide ((l.length : Int) < (m.length : Int)) = false := by simp; omega
        go_wp2_with fail
        go_ret
        refine ⟨ret_int' ?_, Tr⟩
        rw [cmps_long (fun k a b h1 h2 => HE.out k a b (by have := (List.getElem?_eq_some_iff.1 h1).1; omega) h1 h2), if_neg (by omega), if_neg hlm]
end Go.Proofs.Ytoihjobdfjajfaa
