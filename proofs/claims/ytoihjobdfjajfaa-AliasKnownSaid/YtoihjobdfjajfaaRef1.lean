/- The document's Size, Depth, Same. -/
import Derived.Test.YtoihjobdfjajfaaSame
namespace Go.Proofs.Ytoihjobdfjajfaa
set_option linter.unusedVariables false
set_option linter.unusedSimpArgs false
open Go.RowKit

theorem sizes_snoc {α : Type} (l : List (Tm α)) (j : Nat) (x : Tm α) (h : l[j]? = some x) : Tm.sizes (l.take (j + 1)) = Tm.sizes (l.take j) + x.size := by
  rw [take_snoc' _ _ _ h, Tm.sizes_append]; simp [Tm.sizes]
theorem sizes_take_le {α : Type} (l : List (Tm α)) (j : Nat) : Tm.sizes (l.take j) ≤ Tm.sizes l := by
  have := Tm.sizes_append (l.take j) (l.drop j)
  rw [List.take_append_drop] at this; omega
theorem arg_depth {α : Type} {t x : Tm α} (h : x ∈ t.args) : x.depth < t.depth := by
  obtain ⟨j, hj⟩ := List.getElem?_of_mem h
  have h4 := Tm.depths_snoc _ j x hj
  have h5 := Tm.depths_take_le t.args (j + 1)
  rw [Tm.depth_eq t]; omega
/-- What holds at a round's head. -/
def RSizeR (l : List LT) (most : Nat) (w1 : World) (g : Nat) (d i : Value) (wr : World) : Prop := ∃ j dd : Nat, Hid (j + g = l.length) ∧ j ≤ l.length ∧ i = .int .i64 j ∧ d = .int .i64 dd ∧ dd ≤ most + 1 ∧ Hid (dd = min (1 + Tm.sizes (l.take j)) (most + 1)) ∧ Turned (fun _ => False) w1 wr

set_option maxHeartbeats 1600000 in
theorem rSize49 (p : Nat → Prop) (m : Nat) : ∀ (t : LT) (most : Nat) (w : World), t.depth ≤ m → most ≤ 100000 → t.In p w →
    Calls Try.prog 49 #[t.val, .int .i64 most] w fun e w' => e = .returned (.int .i64 ((min t.size (most + 1) : Nat) : Int)) ∧ Turned (fun _ => False) w w' := by
  induction m with
  | zero => intro t most w h; have := Tm.depth_pos t; omega
  | succ k ih =>
    intro t most w hd hk ht
    rw [LT.val_eq]
    have hlm := ht.len
    have hal : t.args.length ≤ 9223372036854775807 := by have := hlm.1; have := hlm.2.1; unfold maxLen at this; omega
    have T1 := (Turned.refl (fun _ => False) w).alloc (.cells #[.int .i64 t.kind, .int .i64 t.n, .string t.name, .slice t.at_.1 t.args.length t.at_.2] 41)
    have HT1 := Lib.hid T1
    have hb1 := boxed w #[.int .i64 t.kind, .int .i64 t.n, .string t.name, .slice t.at_.1 t.args.length t.at_.2] 41 3
    replace hb1 : (w.alloc (.cells #[.int .i64 t.kind, .int .i64 t.n, .string t.name, .slice t.at_.1 t.args.length t.at_.2] 41)).cell? ⟨w.heap.size, 3, none⟩ = some (.slice t.at_.1 t.args.length t.at_.2) := hb1
    obtain ⟨a, ha⟩ : ∃ a, a = t.at_.1 := ⟨_, rfl⟩
    have hlies := fun W h => (LT.In.lies (p := p) (w := W) (t := t) h)
    rw [← ha] at HT1 hb1 hlies ⊢
    have HLI := Lib.hid hlies
    have HD := Lib.hid hd
    clear T1 hlm ha hlies hd
    go_enter Try.func49, Try.ntmps49
    go_wp2_with fail
    have HTB := And.intro HT1 (Lib.hid hb1)
    clear HT1 hb1
    revert HTB
    generalize w.alloc (.cells #[.int .i64 t.kind, .int .i64 t.n, .string t.name, .slice a t.args.length t.at_.2] 41) = w1
    intro HTB
    obtain ⟨HT1, HB1⟩ := HTB
    go_loopg [5, 6] t.args.length (fun g d i wr => RSizeR t.args most w1 g d i wr)
    case atStart => exact ⟨0, 1, Nat.zero_add _, Nat.zero_le _, rfl, rfl, by omega, show _ = _ by simp [Tm.sizes], Turned.refl _ _⟩
    case round =>
      obtain ⟨j, dd, HG, hj, rfl, rfl, hdd, HDD, Tr⟩ := hrel
      have hb := Tr.cell0 HB1.out
      by_cases hjl : j < t.args.length
      · by_cases hle : dd ≤ most
        · have hx : t.args[j]? = some t.args[j] := List.getElem?_eq_getElem hjl
          obtain ⟨x, hxe⟩ : ∃ x : LT, x = t.args[j] := ⟨_, rfl⟩
          rw [← hxe] at hx
          clear hxe
          have hin := ht.turned0 (HT1.out.trans Tr)
          have hxin := (LT.ins_iff _).1 hin.args x (List.mem_of_getElem? hx)
          obtain ⟨b, o, rfl, _, c0, c1, c2, c3⟩ := (HLI.out _ hin).cell hx
          have hxd := arg_depth (List.mem_of_getElem? hx)
          have hih := ih x (most - dd) wr (by have := HD.out; omega) (by omega) hxin
          rw [LT.val_eq, show ((most - dd : Nat) : Int) = (most : Int) - (dd : Int) from by omega] at hih
          have HX := Lib.hid hx
          have HI := Lib.hid hih
          clear hx hih ih hxin hin hxd
          have z1 : (0 : Int) ≤ (dd : Int) := by omega
          have z2 : ((min x.size (most - dd + 1) : Nat) : Int) ≤ 200000 := by omega
          go_wp2_with (go_at_call 49; refine HI.out.mono ?_; rintro e w2 ⟨rfl, T2⟩)
          go_roundg (gk - 1)
          case measure => have := HG.out; omega
          case rel =>
            have hD := HDD.out
            have hS := sizes_snoc t.args j x HX.out
            refine ⟨j + 1, dd + min x.size (most - dd + 1), show _ = _ by have := HG.out; omega, by omega, by go_num, by go_num, by omega, ?_, Tr.trans T2⟩
            show _ = _
            rw [hS]; omega
        · go_wp2_with fail
          go_ret
          have hD := HDD.out
          have hL := sizes_take_le t.args j
          refine ⟨ret_int' ?_, HT1.out.trans Tr⟩
          rw [Tm.size_eq]; omega
      · go_wp2_with fail
        go_ret
        have hD := HDD.out
        have : j = t.args.length := by omega
        rw [this, List.take_length] at hD
        refine ⟨ret_int' ?_, HT1.out.trans Tr⟩
        rw [Tm.size_eq]; omega

/-- What holds at a round's head. -/
def RDepR (l : List LT) (k : Nat) (w1 : World) (g : Nat) (d i : Value) (wr : World) : Prop := ∃ j dd : Nat, Hid (j + g = l.length) ∧ j ≤ l.length ∧ i = .int .i64 j ∧ d = .int .i64 dd ∧ dd ≤ k + 1 ∧ Hid (dd = min (Tm.depths (l.take j)) (k + 1)) ∧ Turned (fun _ => False) w1 wr
set_option maxHeartbeats 1600000 in
theorem rDepth50 (p : Nat → Prop) (m : Nat) : ∀ (t : LT) (w : World), m ≤ 1000 → t.In p w →
    Calls Try.prog 50 #[t.val, .int .i64 (m : Int)] w fun e w' => e = .returned (.int .i64 ((min t.depth (m + 1) : Nat) : Int)) ∧ Turned (fun _ => False) w w' := by
  induction m with
  | zero =>
    intro t w hk ht
    rw [LT.val_eq]
    have := Tm.depth_pos t
    rw [show min t.depth (0 + 1) = 1 from by omega]
    show Calls Try.prog 50 #[_, .int .i64 0] w _
    go_enter Try.func50, Try.ntmps50
    go_wp2_with fail
    go_ret
    exact ⟨rfl, (Turned.refl _ _).alloc _⟩
  | succ k ih =>
    intro t w hk ht
    rw [LT.val_eq, show (((k + 1 : Nat)) : Int) = (k : Int) + 1 from by omega]
    have hlm := ht.len
    have hal : t.args.length ≤ 9223372036854775807 := by have := hlm.1; have := hlm.2.1; unfold maxLen at this; omega
    have T1 := (Turned.refl (fun _ => False) w).alloc (.cells #[.int .i64 t.kind, .int .i64 t.n, .string t.name, .slice t.at_.1 t.args.length t.at_.2] 41)
    have HT1 := Lib.hid T1
    have hb1 : (w.alloc (.cells #[.int .i64 t.kind, .int .i64 t.n, .string t.name, .slice t.at_.1 t.args.length t.at_.2] 41)).cell? ⟨w.heap.size, 3, none⟩ = some (.slice t.at_.1 t.args.length t.at_.2) := boxed w #[.int .i64 t.kind, .int .i64 t.n, .string t.name, .slice t.at_.1 t.args.length t.at_.2] 41 3
    obtain ⟨a, ha⟩ : ∃ a, a = t.at_.1 := ⟨_, rfl⟩
    have hlies := fun W h => (LT.In.lies (p := p) (w := W) (t := t) h)
    rw [← ha] at HT1 hb1 hlies ⊢
    have HLI := Lib.hid hlies
    clear T1 hlm ha hlies
    go_enter Try.func50, Try.ntmps50
    go_wp2_with fail
    have HTB := And.intro HT1 (Lib.hid hb1)
    clear HT1 hb1
    revert HTB
    generalize w.alloc (.cells #[.int .i64 t.kind, .int .i64 t.n, .string t.name, .slice a t.args.length t.at_.2] 41) = w1
    intro HTB
    obtain ⟨HT1, HB1⟩ := HTB
    go_loopg [5, 6] t.args.length (fun g d i wr => RDepR t.args k w1 g d i wr)
    case atStart => exact ⟨0, 0, Nat.zero_add _, Nat.zero_le _, rfl, rfl, Nat.zero_le _, show _ = _ by simp [Tm.depths], Turned.refl _ _⟩
    case round =>
      obtain ⟨j, dd, HG, hj, rfl, rfl, hdd, HDD, Tr⟩ := hrel
      have hb := Tr.cell0 HB1.out
      by_cases hjl : j < t.args.length
      · have hx : t.args[j]? = some t.args[j] := List.getElem?_eq_getElem hjl
        obtain ⟨x, hxe⟩ : ∃ x : LT, x = t.args[j] := ⟨_, rfl⟩
        rw [← hxe] at hx
        clear hxe
        have hin := ht.turned0 (HT1.out.trans Tr)
        have hxin := (LT.ins_iff _).1 hin.args x (List.mem_of_getElem? hx)
        obtain ⟨b, o, rfl, _, c0, c1, c2, c3⟩ := (HLI.out _ hin).cell hx
        have hih := ih x wr (by omega) hxin
        rw [LT.val_eq] at hih
        have HX := Lib.hid hx
        have HI := Lib.hid hih
        clear hx hih ih hxin hin
        obtain ⟨v, hv⟩ : ∃ v : Nat, v = min x.depth (k + 1) := ⟨_, rfl⟩
        rw [← hv] at HI
        have HV := Lib.hid hv
        have hvk : v ≤ k + 1 := by omega
        clear hv
        by_cases hgt : dd < v
        · go_wp2_with (go_at_call 50; refine HI.out.mono ?_; rintro e w2 ⟨rfl, T2⟩)
          go_roundg (gk - 1)
          case measure => have := HG.out; omega
          case rel =>
            have hD := HDD.out
            have hS := Tm.depths_snoc t.args j x HX.out
            have hV := HV.out
            refine ⟨j + 1, v, show _ = _ by have := HG.out; omega, by omega, by go_num, rfl, by omega, ?_, Tr.trans T2⟩
            show _ = _
            rw [hS]; omega
        · go_wp2_with (go_at_call 50; refine HI.out.mono ?_; rintro e w2 ⟨rfl, T2⟩)
          go_roundg (gk - 1)
          case measure => have := HG.out; omega
          case rel =>
            have hD := HDD.out
            have hS := Tm.depths_snoc t.args j x HX.out
            have hV := HV.out
            refine ⟨j + 1, dd, show _ = _ by have := HG.out; omega, by omega, by go_num, rfl, by omega, ?_, Tr.trans T2⟩
            show _ = _
            rw [hS]; omega
      · go_wp2_with fail
        go_ret
        have hD := HDD.out
        have : j = t.args.length := by omega
        rw [this, List.take_length] at hD
        refine ⟨ret_int' ?_, HT1.out.trans Tr⟩
        rw [Tm.depth_eq]; omega
end Go.Proofs.Ytoihjobdfjajfaa
