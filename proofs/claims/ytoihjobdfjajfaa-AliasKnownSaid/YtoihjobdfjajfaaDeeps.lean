/- deep, as each chapter's laws have it. Printed by a program out of Deep.lean. -/
import Derived.Test.YtoihjobdfjajfaaDeep
namespace Go.Proofs.Ytoihjobdfjajfaa
set_option linter.unusedVariables false
set_option linter.unusedSimpArgs false
open Go.RowKit

set_option maxHeartbeats 800000 in
theorem deep41 (p : Nat → Prop) (k : Nat) : ∀ (t : LT) (w : World), k ≤ 1000 → t.In p w →
    Calls Try.prog 41 #[t.val, .int .i64 k] w fun e w' => e = .returned (.bool (deepB k t)) ∧ Turned (fun _ => False) w w' := by
  induction k with
  | zero =>
    intro t w hk ht
    rw [LT.val_eq]
    go_enter Try.func41, Try.ntmps41
    go_wp2_with fail
    go_ret
    exact ⟨rfl, (Turned.refl _ _).alloc _⟩
  | succ k ih =>
    intro t w hk ht
    rw [LT.val_eq]
    have hl := ht.len
    have hm := hl.2.1
    have hm1 := hl.1
    unfold maxLen at hm
    by_cases h12 : 12 < t.args.length
    · go_enter Try.func41, Try.ntmps41
      go_wp2_with fail
      go_ret
      exact ⟨by simp [deepB, h12], (Turned.refl _ _).alloc _⟩
    · have hd : decide (12 < (t.args.length : Int)) = false := by simp; omega
      have hgo : deepB (k + 1) t = t.args.any (deepB k) := by simp [deepB, h12]
      rw [hgo]
      clear hgo
      go_enter Try.func41, Try.ntmps41
      go_wp2_with fail
      have T1 := (Turned.refl (fun _ => False) w).alloc (.cells #[.int .i64 t.kind, .int .i64 t.n, .string t.name, .slice t.at_.1 t.args.length t.at_.2] 27)
      have hb1 := boxed w #[.int .i64 t.kind, .int .i64 t.n, .string t.name, .slice t.at_.1 t.args.length t.at_.2] 27 3
      revert T1 hb1
      generalize w.alloc (.cells #[.int .i64 t.kind, .int .i64 t.n, .string t.name, .slice t.at_.1 t.args.length t.at_.2] 27) = w1
      intro T1 hb1
      have ht1 := ht.turned0 T1
      clear ht hl
      go_loopw [5] (fun i wr => ∃ j : Nat, j ≤ t.args.length ∧ i = .int .i64 j ∧ (t.args.take j).any (deepB k) = false ∧ Turned (fun _ => False) w1 wr) (fun i _ => t.args.length - (intOf i).toNat)
      case atStart => exact ⟨0, Nat.zero_le _, rfl, rfl, Turned.refl _ _⟩
      case round =>
        obtain ⟨j, hj, rfl, hany, Tr⟩ := hrel
        have hb := Tr.cell0 hb1
        simp at hb
        have HA := Lib.hid hany
        clear hany
        by_cases hjl : j < t.args.length
        · have hx : t.args[j]? = some t.args[j] := List.getElem?_eq_getElem hjl
          obtain ⟨x, hxe⟩ : ∃ x, x = t.args[j] := ⟨_, rfl⟩
          rw [← hxe] at hx
          clear hxe
          have hxin := (LT.ins_iff _).1 (ht1.turned0 Tr).args x (List.mem_of_getElem? hx)
          obtain ⟨b, o, ha, _, c0, c1, c2, c3⟩ := (ht1.turned0 Tr).lies.cell hx
          have HX := Lib.hid hx
          clear hx
          rw [ha] at hb
          have hih := fun W h => ih x W (by omega) h
          rw [LT.val_eq] at hih
          have HI := Lib.hid hih
          clear hih ih
          have HAd := Lib.hid ha
          clear ha
          go_wp2_with (go_at_call 41; refine (HI.out _ hxin).mono ?_; rintro e w2 ⟨rfl, T2⟩)
          · have hd : deepB k x = true := by assumption
            go_ret
            exact ⟨ret_bool (any_yes _ _ _ _ HX.out hd).symm, T1.trans (Tr.trans T2)⟩
          · have hd : deepB k x = false := by assumption
            go_roundw
            case rel => exact ⟨j + 1, by omega, by go_num, by rw [any_snoc _ _ _ _ HX.out, HA.out, hd]; rfl, Tr.trans T2⟩
            case measure => simp [intOf]; omega
        · go_wp2_with fail
          go_ret
          refine ⟨?_, T1.trans Tr⟩
          have : j = t.args.length := by omega
          have h := HA.out
          rw [this, List.take_length] at h
          exact ret_bool h.symm
set_option maxHeartbeats 800000 in
theorem deep66 (p : Nat → Prop) (k : Nat) : ∀ (t : LT) (w : World), k ≤ 1000 → t.In p w →
    Calls Try.prog 66 #[t.val, .int .i64 k] w fun e w' => e = .returned (.bool (deepB k t)) ∧ Turned (fun _ => False) w w' := by
  induction k with
  | zero =>
    intro t w hk ht
    rw [LT.val_eq]
    go_enter Try.func66, Try.ntmps66
    go_wp2_with fail
    go_ret
    exact ⟨rfl, (Turned.refl _ _).alloc _⟩
  | succ k ih =>
    intro t w hk ht
    rw [LT.val_eq]
    have hl := ht.len
    have hm := hl.2.1
    have hm1 := hl.1
    unfold maxLen at hm
    by_cases h12 : 12 < t.args.length
    · go_enter Try.func66, Try.ntmps66
      go_wp2_with fail
      go_ret
      exact ⟨by simp [deepB, h12], (Turned.refl _ _).alloc _⟩
    · have hd : decide (12 < (t.args.length : Int)) = false := by simp; omega
      have hgo : deepB (k + 1) t = t.args.any (deepB k) := by simp [deepB, h12]
      rw [hgo]
      clear hgo
      go_enter Try.func66, Try.ntmps66
      go_wp2_with fail
      have T1 := (Turned.refl (fun _ => False) w).alloc (.cells #[.int .i64 t.kind, .int .i64 t.n, .string t.name, .slice t.at_.1 t.args.length t.at_.2] 27)
      have hb1 := boxed w #[.int .i64 t.kind, .int .i64 t.n, .string t.name, .slice t.at_.1 t.args.length t.at_.2] 27 3
      revert T1 hb1
      generalize w.alloc (.cells #[.int .i64 t.kind, .int .i64 t.n, .string t.name, .slice t.at_.1 t.args.length t.at_.2] 27) = w1
      intro T1 hb1
      have ht1 := ht.turned0 T1
      clear ht hl
      go_loopw [5] (fun i wr => ∃ j : Nat, j ≤ t.args.length ∧ i = .int .i64 j ∧ (t.args.take j).any (deepB k) = false ∧ Turned (fun _ => False) w1 wr) (fun i _ => t.args.length - (intOf i).toNat)
      case atStart => exact ⟨0, Nat.zero_le _, rfl, rfl, Turned.refl _ _⟩
      case round =>
        obtain ⟨j, hj, rfl, hany, Tr⟩ := hrel
        have hb := Tr.cell0 hb1
        simp at hb
        have HA := Lib.hid hany
        clear hany
        by_cases hjl : j < t.args.length
        · have hx : t.args[j]? = some t.args[j] := List.getElem?_eq_getElem hjl
          obtain ⟨x, hxe⟩ : ∃ x, x = t.args[j] := ⟨_, rfl⟩
          rw [← hxe] at hx
          clear hxe
          have hxin := (LT.ins_iff _).1 (ht1.turned0 Tr).args x (List.mem_of_getElem? hx)
          obtain ⟨b, o, ha, _, c0, c1, c2, c3⟩ := (ht1.turned0 Tr).lies.cell hx
          have HX := Lib.hid hx
          clear hx
          rw [ha] at hb
          have hih := fun W h => ih x W (by omega) h
          rw [LT.val_eq] at hih
          have HI := Lib.hid hih
          clear hih ih
          have HAd := Lib.hid ha
          clear ha
          go_wp2_with (go_at_call 66; refine (HI.out _ hxin).mono ?_; rintro e w2 ⟨rfl, T2⟩)
          · have hd : deepB k x = true := by assumption
            go_ret
            exact ⟨ret_bool (any_yes _ _ _ _ HX.out hd).symm, T1.trans (Tr.trans T2)⟩
          · have hd : deepB k x = false := by assumption
            go_roundw
            case rel => exact ⟨j + 1, by omega, by go_num, by rw [any_snoc _ _ _ _ HX.out, HA.out, hd]; rfl, Tr.trans T2⟩
            case measure => simp [intOf]; omega
        · go_wp2_with fail
          go_ret
          refine ⟨?_, T1.trans Tr⟩
          have : j = t.args.length := by omega
          have h := HA.out
          rw [this, List.take_length] at h
          exact ret_bool h.symm
set_option maxHeartbeats 800000 in
theorem deep70 (p : Nat → Prop) (k : Nat) : ∀ (t : LT) (w : World), k ≤ 1000 → t.In p w →
    Calls Try.prog 70 #[t.val, .int .i64 k] w fun e w' => e = .returned (.bool (deepB k t)) ∧ Turned (fun _ => False) w w' := by
  induction k with
  | zero =>
    intro t w hk ht
    rw [LT.val_eq]
    go_enter Try.func70, Try.ntmps70
    go_wp2_with fail
    go_ret
    exact ⟨rfl, (Turned.refl _ _).alloc _⟩
  | succ k ih =>
    intro t w hk ht
    rw [LT.val_eq]
    have hl := ht.len
    have hm := hl.2.1
    have hm1 := hl.1
    unfold maxLen at hm
    by_cases h12 : 12 < t.args.length
    · go_enter Try.func70, Try.ntmps70
      go_wp2_with fail
      go_ret
      exact ⟨by simp [deepB, h12], (Turned.refl _ _).alloc _⟩
    · have hd : decide (12 < (t.args.length : Int)) = false := by simp; omega
      have hgo : deepB (k + 1) t = t.args.any (deepB k) := by simp [deepB, h12]
      rw [hgo]
      clear hgo
      go_enter Try.func70, Try.ntmps70
      go_wp2_with fail
      have T1 := (Turned.refl (fun _ => False) w).alloc (.cells #[.int .i64 t.kind, .int .i64 t.n, .string t.name, .slice t.at_.1 t.args.length t.at_.2] 27)
      have hb1 := boxed w #[.int .i64 t.kind, .int .i64 t.n, .string t.name, .slice t.at_.1 t.args.length t.at_.2] 27 3
      revert T1 hb1
      generalize w.alloc (.cells #[.int .i64 t.kind, .int .i64 t.n, .string t.name, .slice t.at_.1 t.args.length t.at_.2] 27) = w1
      intro T1 hb1
      have ht1 := ht.turned0 T1
      clear ht hl
      go_loopw [5] (fun i wr => ∃ j : Nat, j ≤ t.args.length ∧ i = .int .i64 j ∧ (t.args.take j).any (deepB k) = false ∧ Turned (fun _ => False) w1 wr) (fun i _ => t.args.length - (intOf i).toNat)
      case atStart => exact ⟨0, Nat.zero_le _, rfl, rfl, Turned.refl _ _⟩
      case round =>
        obtain ⟨j, hj, rfl, hany, Tr⟩ := hrel
        have hb := Tr.cell0 hb1
        simp at hb
        have HA := Lib.hid hany
        clear hany
        by_cases hjl : j < t.args.length
        · have hx : t.args[j]? = some t.args[j] := List.getElem?_eq_getElem hjl
          obtain ⟨x, hxe⟩ : ∃ x, x = t.args[j] := ⟨_, rfl⟩
          rw [← hxe] at hx
          clear hxe
          have hxin := (LT.ins_iff _).1 (ht1.turned0 Tr).args x (List.mem_of_getElem? hx)
          obtain ⟨b, o, ha, _, c0, c1, c2, c3⟩ := (ht1.turned0 Tr).lies.cell hx
          have HX := Lib.hid hx
          clear hx
          rw [ha] at hb
          have hih := fun W h => ih x W (by omega) h
          rw [LT.val_eq] at hih
          have HI := Lib.hid hih
          clear hih ih
          have HAd := Lib.hid ha
          clear ha
          go_wp2_with (go_at_call 70; refine (HI.out _ hxin).mono ?_; rintro e w2 ⟨rfl, T2⟩)
          · have hd : deepB k x = true := by assumption
            go_ret
            exact ⟨ret_bool (any_yes _ _ _ _ HX.out hd).symm, T1.trans (Tr.trans T2)⟩
          · have hd : deepB k x = false := by assumption
            go_roundw
            case rel => exact ⟨j + 1, by omega, by go_num, by rw [any_snoc _ _ _ _ HX.out, HA.out, hd]; rfl, Tr.trans T2⟩
            case measure => simp [intOf]; omega
        · go_wp2_with fail
          go_ret
          refine ⟨?_, T1.trans Tr⟩
          have : j = t.args.length := by omega
          have h := HA.out
          rw [this, List.take_length] at h
          exact ret_bool h.symm
set_option maxHeartbeats 800000 in
theorem deep85 (p : Nat → Prop) (k : Nat) : ∀ (t : LT) (w : World), k ≤ 1000 → t.In p w →
    Calls Try.prog 85 #[t.val, .int .i64 k] w fun e w' => e = .returned (.bool (deepB k t)) ∧ Turned (fun _ => False) w w' := by
  induction k with
  | zero =>
    intro t w hk ht
    rw [LT.val_eq]
    go_enter Try.func85, Try.ntmps85
    go_wp2_with fail
    go_ret
    exact ⟨rfl, (Turned.refl _ _).alloc _⟩
  | succ k ih =>
    intro t w hk ht
    rw [LT.val_eq]
    have hl := ht.len
    have hm := hl.2.1
    have hm1 := hl.1
    unfold maxLen at hm
    by_cases h12 : 12 < t.args.length
    · go_enter Try.func85, Try.ntmps85
      go_wp2_with fail
      go_ret
      exact ⟨by simp [deepB, h12], (Turned.refl _ _).alloc _⟩
    · have hd : decide (12 < (t.args.length : Int)) = false := by simp; omega
      have hgo : deepB (k + 1) t = t.args.any (deepB k) := by simp [deepB, h12]
      rw [hgo]
      clear hgo
      go_enter Try.func85, Try.ntmps85
      go_wp2_with fail
      have T1 := (Turned.refl (fun _ => False) w).alloc (.cells #[.int .i64 t.kind, .int .i64 t.n, .string t.name, .slice t.at_.1 t.args.length t.at_.2] 27)
      have hb1 := boxed w #[.int .i64 t.kind, .int .i64 t.n, .string t.name, .slice t.at_.1 t.args.length t.at_.2] 27 3
      revert T1 hb1
      generalize w.alloc (.cells #[.int .i64 t.kind, .int .i64 t.n, .string t.name, .slice t.at_.1 t.args.length t.at_.2] 27) = w1
      intro T1 hb1
      have ht1 := ht.turned0 T1
      clear ht hl
      go_loopw [5] (fun i wr => ∃ j : Nat, j ≤ t.args.length ∧ i = .int .i64 j ∧ (t.args.take j).any (deepB k) = false ∧ Turned (fun _ => False) w1 wr) (fun i _ => t.args.length - (intOf i).toNat)
      case atStart => exact ⟨0, Nat.zero_le _, rfl, rfl, Turned.refl _ _⟩
      case round =>
        obtain ⟨j, hj, rfl, hany, Tr⟩ := hrel
        have hb := Tr.cell0 hb1
        simp at hb
        have HA := Lib.hid hany
        clear hany
        by_cases hjl : j < t.args.length
        · have hx : t.args[j]? = some t.args[j] := List.getElem?_eq_getElem hjl
          obtain ⟨x, hxe⟩ : ∃ x, x = t.args[j] := ⟨_, rfl⟩
          rw [← hxe] at hx
          clear hxe
          have hxin := (LT.ins_iff _).1 (ht1.turned0 Tr).args x (List.mem_of_getElem? hx)
          obtain ⟨b, o, ha, _, c0, c1, c2, c3⟩ := (ht1.turned0 Tr).lies.cell hx
          have HX := Lib.hid hx
          clear hx
          rw [ha] at hb
          have hih := fun W h => ih x W (by omega) h
          rw [LT.val_eq] at hih
          have HI := Lib.hid hih
          clear hih ih
          have HAd := Lib.hid ha
          clear ha
          go_wp2_with (go_at_call 85; refine (HI.out _ hxin).mono ?_; rintro e w2 ⟨rfl, T2⟩)
          · have hd : deepB k x = true := by assumption
            go_ret
            exact ⟨ret_bool (any_yes _ _ _ _ HX.out hd).symm, T1.trans (Tr.trans T2)⟩
          · have hd : deepB k x = false := by assumption
            go_roundw
            case rel => exact ⟨j + 1, by omega, by go_num, by rw [any_snoc _ _ _ _ HX.out, HA.out, hd]; rfl, Tr.trans T2⟩
            case measure => simp [intOf]; omega
        · go_wp2_with fail
          go_ret
          refine ⟨?_, T1.trans Tr⟩
          have : j = t.args.length := by omega
          have h := HA.out
          rw [this, List.take_length] at h
          exact ret_bool h.symm
set_option maxHeartbeats 800000 in
theorem deep92 (p : Nat → Prop) (k : Nat) : ∀ (t : LT) (w : World), k ≤ 1000 → t.In p w →
    Calls Try.prog 92 #[t.val, .int .i64 k] w fun e w' => e = .returned (.bool (deepB k t)) ∧ Turned (fun _ => False) w w' := by
  induction k with
  | zero =>
    intro t w hk ht
    rw [LT.val_eq]
    go_enter Try.func92, Try.ntmps92
    go_wp2_with fail
    go_ret
    exact ⟨rfl, (Turned.refl _ _).alloc _⟩
  | succ k ih =>
    intro t w hk ht
    rw [LT.val_eq]
    have hl := ht.len
    have hm := hl.2.1
    have hm1 := hl.1
    unfold maxLen at hm
    by_cases h12 : 12 < t.args.length
    · go_enter Try.func92, Try.ntmps92
      go_wp2_with fail
      go_ret
      exact ⟨by simp [deepB, h12], (Turned.refl _ _).alloc _⟩
    · have hd : decide (12 < (t.args.length : Int)) = false := by simp; omega
      have hgo : deepB (k + 1) t = t.args.any (deepB k) := by simp [deepB, h12]
      rw [hgo]
      clear hgo
      go_enter Try.func92, Try.ntmps92
      go_wp2_with fail
      have T1 := (Turned.refl (fun _ => False) w).alloc (.cells #[.int .i64 t.kind, .int .i64 t.n, .string t.name, .slice t.at_.1 t.args.length t.at_.2] 27)
      have hb1 := boxed w #[.int .i64 t.kind, .int .i64 t.n, .string t.name, .slice t.at_.1 t.args.length t.at_.2] 27 3
      revert T1 hb1
      generalize w.alloc (.cells #[.int .i64 t.kind, .int .i64 t.n, .string t.name, .slice t.at_.1 t.args.length t.at_.2] 27) = w1
      intro T1 hb1
      have ht1 := ht.turned0 T1
      clear ht hl
      go_loopw [5] (fun i wr => ∃ j : Nat, j ≤ t.args.length ∧ i = .int .i64 j ∧ (t.args.take j).any (deepB k) = false ∧ Turned (fun _ => False) w1 wr) (fun i _ => t.args.length - (intOf i).toNat)
      case atStart => exact ⟨0, Nat.zero_le _, rfl, rfl, Turned.refl _ _⟩
      case round =>
        obtain ⟨j, hj, rfl, hany, Tr⟩ := hrel
        have hb := Tr.cell0 hb1
        simp at hb
        have HA := Lib.hid hany
        clear hany
        by_cases hjl : j < t.args.length
        · have hx : t.args[j]? = some t.args[j] := List.getElem?_eq_getElem hjl
          obtain ⟨x, hxe⟩ : ∃ x, x = t.args[j] := ⟨_, rfl⟩
          rw [← hxe] at hx
          clear hxe
          have hxin := (LT.ins_iff _).1 (ht1.turned0 Tr).args x (List.mem_of_getElem? hx)
          obtain ⟨b, o, ha, _, c0, c1, c2, c3⟩ := (ht1.turned0 Tr).lies.cell hx
          have HX := Lib.hid hx
          clear hx
          rw [ha] at hb
          have hih := fun W h => ih x W (by omega) h
          rw [LT.val_eq] at hih
          have HI := Lib.hid hih
          clear hih ih
          have HAd := Lib.hid ha
          clear ha
          go_wp2_with (go_at_call 92; refine (HI.out _ hxin).mono ?_; rintro e w2 ⟨rfl, T2⟩)
          · have hd : deepB k x = true := by assumption
            go_ret
            exact ⟨ret_bool (any_yes _ _ _ _ HX.out hd).symm, T1.trans (Tr.trans T2)⟩
          · have hd : deepB k x = false := by assumption
            go_roundw
            case rel => exact ⟨j + 1, by omega, by go_num, by rw [any_snoc _ _ _ _ HX.out, HA.out, hd]; rfl, Tr.trans T2⟩
            case measure => simp [intOf]; omega
        · go_wp2_with fail
          go_ret
          refine ⟨?_, T1.trans Tr⟩
          have : j = t.args.length := by omega
          have h := HA.out
          rw [this, List.take_length] at h
          exact ret_bool h.symm
set_option maxHeartbeats 800000 in
theorem deep113 (p : Nat → Prop) (k : Nat) : ∀ (t : LT) (w : World), k ≤ 1000 → t.In p w →
    Calls Try.prog 113 #[t.val, .int .i64 k] w fun e w' => e = .returned (.bool (deepB k t)) ∧ Turned (fun _ => False) w w' := by
  induction k with
  | zero =>
    intro t w hk ht
    rw [LT.val_eq]
    go_enter Try.func113, Try.ntmps113
    go_wp2_with fail
    go_ret
    exact ⟨rfl, (Turned.refl _ _).alloc _⟩
  | succ k ih =>
    intro t w hk ht
    rw [LT.val_eq]
    have hl := ht.len
    have hm := hl.2.1
    have hm1 := hl.1
    unfold maxLen at hm
    by_cases h12 : 12 < t.args.length
    · go_enter Try.func113, Try.ntmps113
      go_wp2_with fail
      go_ret
      exact ⟨by simp [deepB, h12], (Turned.refl _ _).alloc _⟩
    · have hd : decide (12 < (t.args.length : Int)) = false := by simp; omega
      have hgo : deepB (k + 1) t = t.args.any (deepB k) := by simp [deepB, h12]
      rw [hgo]
      clear hgo
      go_enter Try.func113, Try.ntmps113
      go_wp2_with fail
      have T1 := (Turned.refl (fun _ => False) w).alloc (.cells #[.int .i64 t.kind, .int .i64 t.n, .string t.name, .slice t.at_.1 t.args.length t.at_.2] 27)
      have hb1 := boxed w #[.int .i64 t.kind, .int .i64 t.n, .string t.name, .slice t.at_.1 t.args.length t.at_.2] 27 3
      revert T1 hb1
      generalize w.alloc (.cells #[.int .i64 t.kind, .int .i64 t.n, .string t.name, .slice t.at_.1 t.args.length t.at_.2] 27) = w1
      intro T1 hb1
      have ht1 := ht.turned0 T1
      clear ht hl
      go_loopw [5] (fun i wr => ∃ j : Nat, j ≤ t.args.length ∧ i = .int .i64 j ∧ (t.args.take j).any (deepB k) = false ∧ Turned (fun _ => False) w1 wr) (fun i _ => t.args.length - (intOf i).toNat)
      case atStart => exact ⟨0, Nat.zero_le _, rfl, rfl, Turned.refl _ _⟩
      case round =>
        obtain ⟨j, hj, rfl, hany, Tr⟩ := hrel
        have hb := Tr.cell0 hb1
        simp at hb
        have HA := Lib.hid hany
        clear hany
        by_cases hjl : j < t.args.length
        · have hx : t.args[j]? = some t.args[j] := List.getElem?_eq_getElem hjl
          obtain ⟨x, hxe⟩ : ∃ x, x = t.args[j] := ⟨_, rfl⟩
          rw [← hxe] at hx
          clear hxe
          have hxin := (LT.ins_iff _).1 (ht1.turned0 Tr).args x (List.mem_of_getElem? hx)
          obtain ⟨b, o, ha, _, c0, c1, c2, c3⟩ := (ht1.turned0 Tr).lies.cell hx
          have HX := Lib.hid hx
          clear hx
          rw [ha] at hb
          have hih := fun W h => ih x W (by omega) h
          rw [LT.val_eq] at hih
          have HI := Lib.hid hih
          clear hih ih
          have HAd := Lib.hid ha
          clear ha
          go_wp2_with (go_at_call 113; refine (HI.out _ hxin).mono ?_; rintro e w2 ⟨rfl, T2⟩)
          · have hd : deepB k x = true := by assumption
            go_ret
            exact ⟨ret_bool (any_yes _ _ _ _ HX.out hd).symm, T1.trans (Tr.trans T2)⟩
          · have hd : deepB k x = false := by assumption
            go_roundw
            case rel => exact ⟨j + 1, by omega, by go_num, by rw [any_snoc _ _ _ _ HX.out, HA.out, hd]; rfl, Tr.trans T2⟩
            case measure => simp [intOf]; omega
        · go_wp2_with fail
          go_ret
          refine ⟨?_, T1.trans Tr⟩
          have : j = t.args.length := by omega
          have h := HA.out
          rw [this, List.take_length] at h
          exact ret_bool h.symm
end Go.Proofs.Ytoihjobdfjajfaa
