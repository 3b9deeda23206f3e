/- cmp.Compare of strings. -/
import Derived.Test.YtoihjobdfjajfaaCmp1
namespace Go.Proofs.Ytoihjobdfjajfaa
set_option linter.unusedVariables false
set_option linter.unusedSimpArgs false
open Go.RowKit
theorem bytesLess_cmp (a b : List UInt8) : Op.bytesLess a b = decide (cmpL a b < 0) := by
  induction a generalizing b with
  | nil => cases b <;> simp [Op.bytesLess, cmpL]
  | cons x l ih =>
    cases b with
    | nil => simp [Op.bytesLess, cmpL]
    | cons y m =>
      simp only [Op.bytesLess, cmpL]
      by_cases h : x < y
      · simp [h]
      · by_cases h' : y < x
        · have hne : ¬ x = y := by intro e; subst e; exact h h'
          simp [h, h', hne]
        · have : x = y := by rw [UInt8.lt_iff_toNat_lt] at *; exact UInt8.toNat_inj.1 (by omega)
          subst this
          simp [h, ih]
theorem less_cmp (x y : ByteArray) : Op.bytesLess x.toList y.toList = decide (cmpS x y < 0) := by
  rw [ByteArray.toList_eq, ByteArray.toList_eq, bytesLess_cmp]
  rfl
set_option maxHeartbeats 800000 in
theorem compare167 (x y : ByteArray) (w : World) : Calls Try.prog 167 #[.string x, .string y] w fun e w' => e = .returned (.int .i64 (cmpS x y)) ∧ Turned (fun _ => False) w w' := by
  have H1 := Lib.hid (isNaN182 x)
  have H2 := Lib.hid (isNaN182 y)
  go_enter Try.func167, Try.ntmps167
  go_wp2_with (first
    | (go_at_call 182; have := T1; refine (H2.out _).mono ?_; rintro e w2 ⟨rfl, T2⟩)
    | (go_at_call 182; refine (H1.out _).mono ?_; rintro e w1 ⟨rfl, T1⟩))
  · have h1 : Op.bytesLess x.toList y.toList = true := by assumption
    rw [less_cmp] at h1
    have h1 := of_decide_eq_true h1
    go_ret
    exact ⟨ret_int' (by have := cmpL_range x.data.toList y.data.toList; unfold cmpS at h1 ⊢; omega), T1.trans T2⟩
  · have h1 : Op.bytesLess x.toList y.toList = false := by assumption
    have h2 : (!(x.toList == y.toList)) = true := by assumption
    rw [less_cmp] at h1
    have h1 := of_decide_eq_false h1
    have h3 : cmpS x y ≠ 0 := fun e => by
      rw [cmpS_zero'.1 e] at h2
      simp at h2
    go_ret
    exact ⟨ret_int' (by have := cmpL_range x.data.toList y.data.toList; unfold cmpS at h1 h3 ⊢; omega), T1.trans T2⟩
  · have h2 : (!(x.toList == y.toList)) = false := by assumption
    have h3 : cmpS x y = 0 := by
      rw [cmpS_zero']
      rw [Bool.not_eq_false'] at h2
      have h2 := eq_of_beq h2
      rw [ByteArray.toList_eq, ByteArray.toList_eq] at h2
      cases x; cases y
      simp at h2
      rw [h2]
    go_ret
    exact ⟨ret_int' h3.symm, T1.trans T2⟩
end Go.Proofs.Ytoihjobdfjajfaa
