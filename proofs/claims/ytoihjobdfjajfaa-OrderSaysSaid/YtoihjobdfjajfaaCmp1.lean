/- cmp.Compare, cmp.Or, place. -/
import Derived.Test.YtoihjobdfjajfaaOrdP
import Derived.Test.YtoihjobdfjajfaaSame
import Derived.Test.YtoihjobdfjajfaaDepth
namespace Go.Proofs.Ytoihjobdfjajfaa
set_option linter.unusedVariables false
set_option linter.unusedSimpArgs false
open Go.RowKit

theorem isNaN180 (x : Int) (w : World) : Calls Try.prog 180 #[.int .i64 x] w fun e w' => e = .returned (.bool false) ∧ Turned (fun _ => False) w w' := by
  have h : (x != x) = false := by simp
  go_enter Try.func180, Try.ntmps180
  go_wp2_with fail
  go_ret
  exact ⟨rfl, Turned.refl _ _⟩
set_option maxHeartbeats 800000 in
theorem compare165 (x y : Int) (w : World) : Calls Try.prog 165 #[.int .i64 x, .int .i64 y] w fun e w' => e = .returned (.int .i64 (cmpI x y)) ∧ Turned (fun _ => False) w w' := by
  have H1 := Lib.hid (isNaN180 x)
  have H2 := Lib.hid (isNaN180 y)
  by_cases h : x < y
  · have HR : Hid (cmpI x y = -1) := by show _ = _; unfold cmpI; rw [if_pos h]
    have h1 : decide (x < y) = true := by simp [h]
    go_enter Try.func165, Try.ntmps165
    go_wp2_with (first
      | (go_at_call 180; have := T1; refine (H2.out _).mono ?_; rintro e w2 ⟨rfl, T2⟩)
      | (go_at_call 180; refine (H1.out _).mono ?_; rintro e w1 ⟨rfl, T1⟩))
    go_ret
    exact ⟨ret_int' HR.out.symm, T1.trans T2⟩
  · by_cases h' : y < x
    · have HR : Hid (cmpI x y = 1) := by show _ = _; unfold cmpI; rw [if_neg h, if_pos h']
      have h1 : decide (x < y) = false := by simp; omega
      have h2 : decide (y < x) = true := by simp [h']
      clear h h'
      go_enter Try.func165, Try.ntmps165
      go_wp2_with (first
        | (go_at_call 180; have := T1; refine (H2.out _).mono ?_; rintro e w2 ⟨rfl, T2⟩)
        | (go_at_call 180; refine (H1.out _).mono ?_; rintro e w1 ⟨rfl, T1⟩))
      go_ret
      exact ⟨ret_int' HR.out.symm, T1.trans T2⟩
    · have HR : Hid (cmpI x y = 0) := by show _ = _; unfold cmpI; rw [if_neg h, if_neg h']
      have h1 : decide (x < y) = false := by simp; omega
      have h2 : decide (y < x) = false := by simp; omega
      clear h h'
      go_enter Try.func165, Try.ntmps165
      go_wp2_with (first
        | (go_at_call 180; have := T1; refine (H2.out _).mono ?_; rintro e w2 ⟨rfl, T2⟩)
        | (go_at_call 180; refine (H1.out _).mono ?_; rintro e w1 ⟨rfl, T1⟩))
      go_ret
      exact ⟨ret_int' HR.out.symm, T1.trans T2⟩

theorem isNaN181 (x : Int) (w : World) : Calls Try.prog 181 #[.int .i64 x] w fun e w' => e = .returned (.bool false) ∧ Turned (fun _ => False) w w' := by
  have h : (x != x) = false := by simp
  go_enter Try.func181, Try.ntmps181
  go_wp2_with fail
  go_ret
  exact ⟨rfl, Turned.refl _ _⟩
set_option maxHeartbeats 800000 in
theorem compare166 (x y : Int) (w : World) : Calls Try.prog 166 #[.int .i64 x, .int .i64 y] w fun e w' => e = .returned (.int .i64 (cmpI x y)) ∧ Turned (fun _ => False) w w' := by
  have H1 := Lib.hid (isNaN181 x)
  have H2 := Lib.hid (isNaN181 y)
  by_cases h : x < y
  · have HR : Hid (cmpI x y = -1) := by show _ = _; unfold cmpI; rw [if_pos h]
    have h1 : decide (x < y) = true := by simp [h]
    go_enter Try.func166, Try.ntmps166
    go_wp2_with (first
      | (go_at_call 181; have := T1; refine (H2.out _).mono ?_; rintro e w2 ⟨rfl, T2⟩)
      | (go_at_call 181; refine (H1.out _).mono ?_; rintro e w1 ⟨rfl, T1⟩))
    go_ret
    exact ⟨ret_int' HR.out.symm, T1.trans T2⟩
  · by_cases h' : y < x
    · have HR : Hid (cmpI x y = 1) := by show _ = _; unfold cmpI; rw [if_neg h, if_pos h']
      have h1 : decide (x < y) = false := by simp; omega
      have h2 : decide (y < x) = true := by simp [h']
      clear h h'
      go_enter Try.func166, Try.ntmps166
      go_wp2_with (first
        | (go_at_call 181; have := T1; refine (H2.out _).mono ?_; rintro e w2 ⟨rfl, T2⟩)
        | (go_at_call 181; refine (H1.out _).mono ?_; rintro e w1 ⟨rfl, T1⟩))
      go_ret
      exact ⟨ret_int' HR.out.symm, T1.trans T2⟩
    · have HR : Hid (cmpI x y = 0) := by show _ = _; unfold cmpI; rw [if_neg h, if_neg h']
      have h1 : decide (x < y) = false := by simp; omega
      have h2 : decide (y < x) = false := by simp; omega
      clear h h'
      go_enter Try.func166, Try.ntmps166
      go_wp2_with (first
        | (go_at_call 181; have := T1; refine (H2.out _).mono ?_; rintro e w2 ⟨rfl, T2⟩)
        | (go_at_call 181; refine (H1.out _).mono ?_; rintro e w1 ⟨rfl, T1⟩))
      go_ret
      exact ⟨ret_int' HR.out.symm, T1.trans T2⟩

theorem isNaN182 (x : ByteArray) (w : World) : Calls Try.prog 182 #[.string x] w fun e w' => e = .returned (.bool false) ∧ Turned (fun _ => False) w w' := by
  have h : (x.toList != x.toList) = false := by simp
  go_enter Try.func182, Try.ntmps182
  go_wp2_with fail
  go_ret
  exact ⟨rfl, Turned.refl _ _⟩
set_option maxHeartbeats 400000 in
theorem place134 {p : Nat → Prop} {t : LT} {w : World} (ht : t.In p w) : Calls Try.prog 134 #[t.val] w fun e w' => e = .returned (.int .i64 (Tm.place t)) ∧ Turned (fun _ => False) w w' := by
  rw [LT.val_eq]
  have hl := ht.len
  have hal : t.args.length ≤ 9223372036854775807 := by have := hl.1; have := hl.2.1; unfold maxLen at this; omega
  clear hl ht
  have T := fun o => (Turned.refl (fun _ => False) w).alloc o
  by_cases h2 : t.kind = 2
  · have k2 : (t.kind == 2) = true := by simp [h2]
    have k3 : decide (t.kind < 2) = false := by simp; omega
    by_cases hz : t.args.length = 0
    · have z0 : ((t.args.length : Int) == 0) = true := by rw [beq_iff_eq]; omega
      have HR : Hid (Tm.place t = t.kind) := by show _ = _; unfold Tm.place; rw [if_pos (.inl ⟨h2, hz⟩)]
      clear h2 hz
      go_enter Try.func134, Try.ntmps134
      go_wp2_with fail
      go_ret
      exact ⟨ret_int' HR.out.symm, T _⟩
    · have z0 : ((t.args.length : Int) == 0) = false := by rw [beq_eq_false_iff_ne]; omega
      have HR : Hid (Tm.place t = 3) := by show _ = _; unfold Tm.place; rw [if_neg (show ¬ ((t.kind = 2 ∧ t.args.length = 0) ∨ t.kind < 2) from by omega)]
      clear h2 hz
      go_enter Try.func134, Try.ntmps134
      go_wp2_with fail
      go_ret
      exact ⟨ret_int' HR.out.symm, T _⟩
  · have k2 : (t.kind == 2) = false := by simp [h2]
    by_cases hk : t.kind < 2
    · have k3 : decide (t.kind < 2) = true := by simp [hk]
      have HR : Hid (Tm.place t = t.kind) := by show _ = _; unfold Tm.place; rw [if_pos (.inr hk)]
      clear h2 hk
      go_enter Try.func134, Try.ntmps134
      go_wp2_with fail
      go_ret
      exact ⟨ret_int' HR.out.symm, T _⟩
    · have k3 : decide (t.kind < 2) = false := by simp; omega
      have HR : Hid (Tm.place t = 3) := by show _ = _; unfold Tm.place; rw [if_neg (show ¬ ((t.kind = 2 ∧ t.args.length = 0) ∨ t.kind < 2) from by omega)]
      clear h2 hk
      go_enter Try.func134, Try.ntmps134
      go_wp2_with fail
      go_ret
      exact ⟨ret_int' HR.out.symm, T _⟩
/-- The first that is not 0. -/
def firstI : List Int → Int
  | [] => 0
  | x :: l => if x ≠ 0 then x else firstI l
theorem firstI_at {l : List Int} {j : Nat} {x : Int} (h0 : ∀ y ∈ l.take j, y = 0) (hx : l[j]? = some x) (hn : x ≠ 0) : firstI l = x := by
  induction l generalizing j with
  | nil => simp at hx
  | cons z l ih =>
    cases j with
    | zero => simp at hx; subst hx; simp [firstI, hn]
    | succ j =>
      simp at hx
      have := h0 z (by simp)
      subst this
      simp only [firstI, ne_eq, not_true_eq_false, if_false]
      exact ih (fun y hy => h0 y (by simp [hy])) hx
theorem firstI_none {l : List Int} (h0 : ∀ y ∈ l, y = 0) : firstI l = 0 := by
  induction l with
  | nil => rfl
  | cons z l ih =>
    have := h0 z (by simp)
    subst this
    simp only [firstI, ne_eq, not_true_eq_false, if_false]
    exact ih (fun y hy => h0 y (by simp [hy]))
set_option maxHeartbeats 800000 in
theorem or164 {w : World} {v : Value} {xs : List Int} (h : Row w 3 1 v xs.length (xs.map (Value.int .i64))) :
    Calls Try.prog 164 #[v] w fun e w' => e = .returned (.int .i64 (firstI xs)) ∧ Turned (fun _ => False) w w' := by
  obtain ⟨a, c, rfl⟩ := h.shape
  obtain ⟨m1, m2⟩ := h.max
  have H1 := Lib.hid h
  clear h
  go_enter Try.func164, Try.ntmps164
  go_wp2_with fail
  go_loopg [8] xs.length (fun g i wr => ∃ j : Nat, Hid (j + g = xs.length) ∧ j ≤ xs.length ∧ i = .int .i64 j ∧ Hid (∀ y ∈ xs.take j, y = 0) ∧ Turned (fun _ => False) w wr)
  case atStart => exact ⟨0, Nat.zero_add _, Nat.zero_le _, rfl, show ∀ y ∈ _, _ by simp, Turned.refl _ _⟩
  case round =>
    obtain ⟨j, HG, hj, rfl, HE, Tr⟩ := hrel
    by_cases hjl : j < xs.length
    · have hx : xs[j]? = some xs[j] := List.getElem?_eq_getElem hjl
      obtain ⟨x, hxe⟩ : ∃ x, x = xs[j] := ⟨_, rfl⟩
      rw [← hxe] at hx
      obtain ⟨g1, rfl⟩ := H1.out.addr_pos (by omega)
      have k1 := (H1.out.turned0 Tr).int_at hx
      have HX := Lib.hid hx
      clear hxe hx
      by_cases hx0 : x = 0
      · have hb : (x != 0) = false := by simp [hx0]
        have HN := Lib.hid hx0
        clear hx0
        go_wp2_with fail
        go_roundg (gk - 1)
        case measure => have := HG.out; omega
        case rel =>
          refine ⟨j + 1, show _ = _ by have := HG.out; omega, by omega, by go_num, ?_, Tr⟩
          show ∀ y ∈ _, _
          intro y hy
          rw [take_snoc' _ _ _ HX.out] at hy
          rcases List.mem_append.1 hy with hy | hy
          · exact HE.out y hy
          · rw [List.mem_singleton.1 hy]; exact HN.out
      · have hb : (x != 0) = true := by simp [hx0]
        have HN := Lib.hid hx0
        clear hx0
        go_wp2_with fail
        go_ret
        exact ⟨ret_int' (firstI_at HE.out HX.out HN.out).symm, Tr⟩
    · have hje : j = xs.length := by omega
      go_wp2_with fail
      go_ret
      have h := HE.out
      rw [hje, List.take_length] at h
      exact ⟨ret_int' (firstI_none h).symm, Tr⟩
end Go.Proofs.Ytoihjobdfjajfaa
