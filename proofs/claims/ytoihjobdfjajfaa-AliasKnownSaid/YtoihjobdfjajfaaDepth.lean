/- Depth: how deep a term is, up to 65. -/
import Derived.Test.YtoihjobdfjajfaaSize
namespace Go.Proofs.Ytoihjobdfjajfaa
set_option linter.unusedVariables false
set_option linter.unusedSimpArgs false
open Go.RowKit

theorem Tm.depths_append {α : Type} (a b : List (Tm α)) : Tm.depths (a ++ b) = max (Tm.depths a) (Tm.depths b) := by
  induction a with
  | nil => simp [Tm.depths]
  | cons x a ih => simp only [List.cons_append, Tm.depths, ih]; omega
theorem Tm.depths_take_le {α : Type} (l : List (Tm α)) (j : Nat) : Tm.depths (l.take j) ≤ Tm.depths l := by
  have := Tm.depths_append (l.take j) (l.drop j)
  rw [List.take_append_drop] at this; omega
theorem Tm.depths_snoc {α : Type} (l : List (Tm α)) (j : Nat) (x : Tm α) (h : l[j]? = some x) : Tm.depths (l.take (j + 1)) = max (Tm.depths (l.take j)) x.depth := by
  have hj := (List.getElem?_eq_some_iff.1 h)
  rw [List.take_succ_eq_append_getElem hj.1, hj.2, Tm.depths_append]
  simp [Tm.depths]
theorem ret_int' {a b : Int} (h : a = b) : Ending.returned (.int .i64 a) = .returned (.int .i64 b) := by rw [h]

/-- What holds at a round's head. -/
def DepR (l : List LT) (k : Nat) (w1 : World) (g : Nat) (d i : Value) (wr : World) : Prop := ∃ j dd : Nat, Hid (j + g = l.length) ∧ j ≤ l.length ∧ i = .int .i64 j ∧ d = .int .i64 dd ∧ dd ≤ k ∧ Hid (dd = min (Tm.depths (l.take j)) k) ∧ Turned (fun _ => False) w1 wr

set_option maxHeartbeats 800000 in
theorem depth127 (p : Nat → Prop) (m : Nat) : ∀ (t : LT) (w : World), m ≤ 1000 → t.In p w →
    Calls Try.prog 127 #[t.val, .int .i64 ((m : Int) + 1)] w fun e w' => e = .returned (.int .i64 ((min t.depth (m + 1) : Nat) : Int)) ∧ Turned (fun _ => False) w w' := by
  induction m with
  | zero =>
    intro t w hk ht
    rw [LT.val_eq]
    have hlm := ht.len
    have hal : t.args.length ≤ 9223372036854775807 := by have := hlm.1; have := hlm.2.1; unfold maxLen at this; omega
    have T1 := (Turned.refl (fun _ => False) w).alloc (.cells #[.int .i64 t.kind, .int .i64 t.n, .string t.name, .slice t.at_.1 t.args.length t.at_.2] 27)
    have HT1 := Lib.hid T1
    obtain ⟨a, ha⟩ : ∃ a, a = t.at_.1 := ⟨_, rfl⟩
    have hlies := fun W h => (LT.In.lies (p := p) (w := W) (t := t) h)
    rw [← ha] at HT1 hlies ⊢
    have HLI := Lib.hid hlies
    clear T1 hlm ha hlies
    show Calls Try.prog 127 #[_, .int .i64 1] w _
    go_enter Try.func127, Try.ntmps127
    go_wp2_with fail
    revert HT1
    generalize w.alloc (.cells #[.int .i64 t.kind, .int .i64 t.n, .string t.name, .slice a t.args.length t.at_.2] 27) = w1
    intro HT1
    go_loopg [5, 11] t.args.length (fun g d i wr => DepR t.args 0 w1 g d i wr)
    case atStart => exact ⟨0, 0, Nat.zero_add _, Nat.zero_le _, rfl, rfl, Nat.zero_le _, show _ = _ by simp [Tm.depths], Turned.refl _ _⟩
    case round =>
      obtain ⟨j, dd, HG, hj, rfl, rfl, hdd, HD, Tr⟩ := hrel
      by_cases hjl : j < t.args.length
      · have hx : t.args[j]? = some t.args[j] := List.getElem?_eq_getElem hjl
        obtain ⟨x, hxe⟩ : ∃ x : LT, x = t.args[j] := ⟨_, rfl⟩
        rw [← hxe] at hx
        clear hxe
        have hin := ht.turned0 (HT1.out.trans Tr)
        obtain ⟨b, o, rfl, _, c0, c1, c2, c3⟩ := (HLI.out _ hin).cell hx
        clear hx hin
        have hz : 0 ≤ (dd : Int) := by omega
        go_wp2_with fail
        go_ret
        refine ⟨ret_int' ?_, HT1.out.trans (Tr.trans ((Turned.refl _ wr).alloc _))⟩
        have := Tm.depth_pos t; omega
      · go_wp2_with fail
        go_ret
        refine ⟨ret_int' ?_, HT1.out.trans Tr⟩
        have := Tm.depth_pos t; omega
  | succ k ih =>
    intro t w hk ht
    have ek : (((k + 1 : Nat) : Int) + 1) = (k : Int) + 1 + 1 := by omega
    rw [LT.val_eq, ek]
    clear ek
    have hlm := ht.len
    have hal : t.args.length ≤ 9223372036854775807 := by have := hlm.1; have := hlm.2.1; unfold maxLen at this; omega
    have T1 := (Turned.refl (fun _ => False) w).alloc (.cells #[.int .i64 t.kind, .int .i64 t.n, .string t.name, .slice t.at_.1 t.args.length t.at_.2] 27)
    have HT1 := Lib.hid T1
    obtain ⟨a, ha⟩ : ∃ a, a = t.at_.1 := ⟨_, rfl⟩
    have hlies := fun W h => (LT.In.lies (p := p) (w := W) (t := t) h)
    rw [← ha] at HT1 hlies ⊢
    have HLI := Lib.hid hlies
    clear T1 hlm ha hlies
    go_enter Try.func127, Try.ntmps127
    go_wp2_with fail
    revert HT1
    generalize w.alloc (.cells #[.int .i64 t.kind, .int .i64 t.n, .string t.name, .slice a t.args.length t.at_.2] 27) = w1
    intro HT1
    go_loopg [5, 11] t.args.length (fun g d i wr => DepR t.args (k + 1) w1 g d i wr)
    case atStart => exact ⟨0, 0, Nat.zero_add _, Nat.zero_le _, rfl, rfl, Nat.zero_le _, show _ = _ by simp [Tm.depths], Turned.refl _ _⟩
    case round =>
      obtain ⟨j, dd, HG, hj, rfl, rfl, hdd, HD, Tr⟩ := hrel
      by_cases hjl : j < t.args.length
      · have hx : t.args[j]? = some t.args[j] := List.getElem?_eq_getElem hjl
        obtain ⟨x, hxe⟩ : ∃ x : LT, x = t.args[j] := ⟨_, rfl⟩
        rw [← hxe] at hx
        clear hxe
        have hin := ht.turned0 (HT1.out.trans Tr)
        have hxin := (LT.ins_iff _).1 hin.args x (List.mem_of_getElem? hx)
        obtain ⟨b, o, rfl, _, c0, c1, c2, c3⟩ := (HLI.out _ hin).cell hx
        have HX := Lib.hid hx
        have hih := fun W h => ih x W (by omega) h
        rw [LT.val_eq] at hih
        have HI := Lib.hid hih
        have HIN := Lib.hid hxin
        have hxw : ∀ o : Obj, x.In p (wr.alloc o) := fun o => hxin.turned0 ((Turned.refl _ wr).alloc o)
        have HXW := Lib.hid hxw
        clear hx hih ih hxin hin hxw
        by_cases hb : dd < k + 1
        · go_wp2_with (go_at_call 127; refine (HI.out _ (HXW.out _)).mono ?_; rintro e w2 ⟨rfl, T2⟩)
          all_goals
            go_roundg (gk - 1)
            case rel =>
              have hD := HD.out
              have hS := Tm.depths_snoc t.args j x HX.out
              refine ⟨j + 1, _, show _ = _ by have := HG.out; omega, by omega, by go_num, rfl, by omega, ?_, Tr.trans (((Turned.refl _ wr).alloc _).trans T2)⟩
              show _ = _
              rw [hS]; omega
            case measure => have := HG.out; omega
        · go_wp2_with fail
          go_ret
          have hD := HD.out
          have hL := Tm.depths_take_le t.args j
          refine ⟨ret_int' ?_, HT1.out.trans (Tr.trans ((Turned.refl _ wr).alloc _))⟩
          rw [Tm.depth_eq]; omega
      · go_wp2_with fail
        go_ret
        have hD := HD.out
        have : j = t.args.length := by omega
        rw [this, List.take_length] at hD
        refine ⟨ret_int' ?_, HT1.out.trans Tr⟩
        rw [Tm.depth_eq]; omega

set_option maxHeartbeats 400000 in
theorem depth36 {p : Nat → Prop} {t : LT} {w : World} (ht : t.In p w) :
    Calls Try.prog 36 #[t.val] w fun e w' => e = .returned (.int .i64 ((min t.depth 65 : Nat) : Int)) ∧ Turned (fun _ => False) w w' := by
  have hd := fun o => depth127 p 64 t (w.alloc o) (by omega) (ht.turned0 ((Turned.refl _ w).alloc o))
  rw [LT.val_eq] at hd ⊢
  have HD := Lib.hid hd
  clear hd
  go_enter Try.func36, Try.ntmps36
  go_wp2_with (go_at_call 127; refine (HD.out _).mono ?_; rintro e w2 ⟨rfl, T2⟩)
  go_ret
  exact ⟨rfl, ((Turned.refl _ w).alloc _).trans T2⟩
end Go.Proofs.Ytoihjobdfjajfaa
