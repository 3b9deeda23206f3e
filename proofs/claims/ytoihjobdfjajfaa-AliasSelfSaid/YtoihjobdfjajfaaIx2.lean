/- Merged texts: Ref1, Ref3, IX1, Any, Any2, Any3, Any4, OwnP, Ref4, Items0, Items1, Any5, Twin, Own44, Ref2, SayP. -/
import Derived.Test.YtoihjobdfjajfaaIx1
/- The document's Size, Depth, Same. -/
namespace Go.Proofs.Ytoihjobdfjajfaa
set_option linter.unusedVariables false
set_option linter.unusedSimpArgs false
open Go.RowKit

theorem sizes_snoc {α : Type} (l : List (Tm α)) (j : Nat) (x : Tm α) (h : l[j]? = some x) : Tm.sizes (l.take (j + 1)) = Tm.sizes (l.take j) + x.size := by
  rw [take_snoc' _ _ _ h, Tm.sizes_append]; simp [Tm.sizes]
theorem sizes_take_le {α : Type} (l : List (Tm α)) (j : Nat) : Tm.sizes (l.take j) ≤ Tm.sizes l := by
  have := Tm.sizes_append (l.take j) (l.drop j)
  rw [List.take_append_drop] at this; omega
theorem arg_depth {α : Type} {t x : Tm α} (h : x ∈ t.args) : x.depth < t.depth := by
  obtain ⟨j, hj⟩ := List.getElem?_of_mem h
  have h4 := Tm.depths_snoc _ j x hj
  have h5 := Tm.depths_take_le t.args (j + 1)
  rw [Tm.depth_eq t]; omega
/-- What holds at a round's head. -/
def RSizeR (l : List LT) (most : Nat) (w1 : World) (g : Nat) (d i : Value) (wr : World) : Prop := ∃ j dd : Nat, Hid (j + g = l.length) ∧ j ≤ l.length ∧ i = .int .i64 j ∧ d = .int .i64 dd ∧ dd ≤ most + 1 ∧ Hid (dd = min (1 + Tm.sizes (l.take j)) (most + 1)) ∧ Turned (fun _ => False) w1 wr

set_option maxHeartbeats 1600000 in
theorem rSize49 (p : Nat → Prop) (m : Nat) : ∀ (t : LT) (most : Nat) (w : World), t.depth ≤ m → most ≤ 100000 → t.In p w →
    Calls Try.prog 49 #[t.val, .int .i64 most] w fun e w' => e = .returned (.int .i64 ((min t.size (most + 1) : Nat) : Int)) ∧ Turned (fun _ => False) w w' := by
  induction m with
  | zero => intro t most w h; have := Tm.depth_pos t; omega
  | succ k ih =>
    intro t most w hd hk ht
    rw [LT.val_eq]
    have hlm := ht.len
    have hal : t.args.length ≤ 9223372036854775807 := by have := hlm.1; have := hlm.2.1; unfold maxLen at this; omega
    have T1 := (Turned.refl (fun _ => False) w).alloc (.cells #[.int .i64 t.kind, .int .i64 t.n, .string t.name, .slice t.at_.1 t.args.length t.at_.2] 41)
    have HT1 := Lib.hid T1
    have hb1 := boxed w #[.int .i64 t.kind, .int .i64 t.n, .string t.name, .slice t.at_.1 t.args.length t.at_.2] 41 3
    replace hb1 : (w.alloc (.cells #[.int .i64 t.kind, .int .i64 t.n, .string t.name, .slice t.at_.1 t.args.length t.at_.2] 41)).cell? ⟨w.heap.size, 3, none⟩ = some (.slice t.at_.1 t.args.length t.at_.2) := hb1
    obtain ⟨a, ha⟩ : ∃ a, a = t.at_.1 := ⟨_, rfl⟩
    have hlies := fun W h => (LT.In.lies (p := p) (w := W) (t := t) h)
    rw [← ha] at HT1 hb1 hlies ⊢
    have HLI := Lib.hid hlies
    have HD := Lib.hid hd
    clear T1 hlm ha hlies hd
    go_enter Try.func49, Try.ntmps49
    go_wp2_with fail
    have HTB := And.intro HT1 (Lib.hid hb1)
    clear HT1 hb1
    revert HTB
    generalize w.alloc (.cells #[.int .i64 t.kind, .int .i64 t.n, .string t.name, .slice a t.args.length t.at_.2] 41) = w1
    intro HTB
    obtain ⟨HT1, HB1⟩ := HTB
    go_loopg [5, 6] t.args.length (fun g d i wr => RSizeR t.args most w1 g d i wr)
    case atStart => exact ⟨0, 1, Nat.zero_add _, Nat.zero_le _, rfl, rfl, by omega, show _ = _ by simp [Tm.sizes], Turned.refl _ _⟩
    case round =>
      obtain ⟨j, dd, HG, hj, rfl, rfl, hdd, HDD, Tr⟩ := hrel
      have hb := Tr.cell0 HB1.out
      by_cases hjl : j < t.args.length
      · by_cases hle : dd ≤ most
        · have hx : t.args[j]? = some t.args[j] := List.getElem?_eq_getElem hjl
          obtain ⟨x, hxe⟩ : ∃ x : LT, x = t.args[j] := ⟨_, rfl⟩
          rw [← hxe] at hx
          clear hxe
          have hin := ht.turned0 (HT1.out.trans Tr)
          have hxin := (LT.ins_iff _).1 hin.args x (List.mem_of_getElem? hx)
          obtain ⟨b, o, rfl, _, c0, c1, c2, c3⟩ := (HLI.out _ hin).cell hx
          have hxd := arg_depth (List.mem_of_getElem? hx)
          have hih := ih x (most - dd) wr (by have := HD.out; omega) (by omega) hxin
          rw [LT.val_eq, show ((most - dd : Nat) : Int) = (most : Int) - (dd : Int) from by omega] at hih
          have HX := Lib.hid hx
          have HI := Lib.hid hih
          clear hx hih ih hxin hin hxd
          have z1 : (0 : Int) ≤ (dd : Int) := by omega
          have z2 : ((min x.size (most - dd + 1) : Nat) : Int) ≤ 200000 := by omega
          go_wp2_with (go_at_call 49; refine HI.out.mono ?_; rintro e w2 ⟨rfl, T2⟩)
          go_roundg (gk - 1)
          case measure => have := HG.out; omega
          case rel =>
            have hD := HDD.out
            have hS := sizes_snoc t.args j x HX.out
            refine ⟨j + 1, dd + min x.size (most - dd + 1), show _ = _ by have := HG.out; omega, by omega, by go_num, by go_num, by omega, ?_, Tr.trans T2⟩
            show _ = _
            rw [hS]; omega
        · go_wp2_with fail
          go_ret
          have hD := HDD.out
          have hL := sizes_take_le t.args j
          refine ⟨ret_int' ?_, HT1.out.trans Tr⟩
          rw [Tm.size_eq]; omega
      · go_wp2_with fail
        go_ret
        have hD := HDD.out
        have : j = t.args.length := by omega
        rw [this, List.take_length] at hD
        refine ⟨ret_int' ?_, HT1.out.trans Tr⟩
        rw [Tm.size_eq]; omega

/-- What holds at a round's head. -/
def RDepR (l : List LT) (k : Nat) (w1 : World) (g : Nat) (d i : Value) (wr : World) : Prop := ∃ j dd : Nat, Hid (j + g = l.length) ∧ j ≤ l.length ∧ i = .int .i64 j ∧ d = .int .i64 dd ∧ dd ≤ k + 1 ∧ Hid (dd = min (Tm.depths (l.take j)) (k + 1)) ∧ Turned (fun _ => False) w1 wr
set_option maxHeartbeats 1600000 in
theorem rDepth50 (p : Nat → Prop) (m : Nat) : ∀ (t : LT) (w : World), m ≤ 1000 → t.In p w →
    Calls Try.prog 50 #[t.val, .int .i64 (m : Int)] w fun e w' => e = .returned (.int .i64 ((min t.depth (m + 1) : Nat) : Int)) ∧ Turned (fun _ => False) w w' := by
  induction m with
  | zero =>
    intro t w hk ht
    rw [LT.val_eq]
    have := Tm.depth_pos t
    rw [show min t.depth (0 + 1) = 1 from by omega]
    show Calls Try.prog 50 #[_, .int .i64 0] w _
    go_enter Try.func50, Try.ntmps50
    go_wp2_with fail
    go_ret
    exact ⟨rfl, (Turned.refl _ _).alloc _⟩
  | succ k ih =>
    intro t w hk ht
    rw [LT.val_eq, show (((k + 1 : Nat)) : Int) = (k : Int) + 1 from by omega]
    have hlm := ht.len
    have hal : t.args.length ≤ 9223372036854775807 := by have := hlm.1; have := hlm.2.1; unfold maxLen at this; omega
    have T1 := (Turned.refl (fun _ => False) w).alloc (.cells #[.int .i64 t.kind, .int .i64 t.n, .string t.name, .slice t.at_.1 t.args.length t.at_.2] 41)
    have HT1 := Lib.hid T1
    have hb1 : (w.alloc (.cells #[.int .i64 t.kind, .int .i64 t.n, .string t.name, .slice t.at_.1 t.args.length t.at_.2] 41)).cell? ⟨w.heap.size, 3, none⟩ = some (.slice t.at_.1 t.args.length t.at_.2) := boxed w #[.int .i64 t.kind, .int .i64 t.n, .string t.name, .slice t.at_.1 t.args.length t.at_.2] 41 3
    obtain ⟨a, ha⟩ : ∃ a, a = t.at_.1 := ⟨_, rfl⟩
    have hlies := fun W h => (LT.In.lies (p := p) (w := W) (t := t) h)
    rw [← ha] at HT1 hb1 hlies ⊢
    have HLI := Lib.hid hlies
    clear T1 hlm ha hlies
    go_enter Try.func50, Try.ntmps50
    go_wp2_with fail
    have HTB := And.intro HT1 (Lib.hid hb1)
    clear HT1 hb1
    revert HTB
    generalize w.alloc (.cells #[.int .i64 t.kind, .int .i64 t.n, .string t.name, .slice a t.args.length t.at_.2] 41) = w1
    intro HTB
    obtain ⟨HT1, HB1⟩ := HTB
    go_loopg [5, 6] t.args.length (fun g d i wr => RDepR t.args k w1 g d i wr)
    case atStart => exact ⟨0, 0, Nat.zero_add _, Nat.zero_le _, rfl, rfl, Nat.zero_le _, show _ = _ by simp [Tm.depths], Turned.refl _ _⟩
    case round =>
      obtain ⟨j, dd, HG, hj, rfl, rfl, hdd, HDD, Tr⟩ := hrel
      have hb := Tr.cell0 HB1.out
      by_cases hjl : j < t.args.length
      · have hx : t.args[j]? = some t.args[j] := List.getElem?_eq_getElem hjl
        obtain ⟨x, hxe⟩ : ∃ x : LT, x = t.args[j] := ⟨_, rfl⟩
        rw [← hxe] at hx
        clear hxe
        have hin := ht.turned0 (HT1.out.trans Tr)
        have hxin := (LT.ins_iff _).1 hin.args x (List.mem_of_getElem? hx)
        obtain ⟨b, o, rfl, _, c0, c1, c2, c3⟩ := (HLI.out _ hin).cell hx
        have hih := ih x wr (by omega) hxin
        rw [LT.val_eq] at hih
        have HX := Lib.hid hx
        have HI := Lib.hid hih
        clear hx hih ih hxin hin
        obtain ⟨v, hv⟩ : ∃ v : Nat, v = min x.depth (k + 1) := ⟨_, rfl⟩
        rw [← hv] at HI
        have HV := Lib.hid hv
        have hvk : v ≤ k + 1 := by omega
        clear hv
        by_cases hgt : dd < v
        · go_wp2_with (go_at_call 50; refine HI.out.mono ?_; rintro e w2 ⟨rfl, T2⟩)
          go_roundg (gk - 1)
          case measure => have := HG.out; omega
          case rel =>
            have hD := HDD.out
            have hS := Tm.depths_snoc t.args j x HX.out
            have hV := HV.out
            refine ⟨j + 1, v, show _ = _ by have := HG.out; omega, by omega, by go_num, rfl, by omega, ?_, Tr.trans T2⟩
            show _ = _
            rw [hS]; omega
        · go_wp2_with (go_at_call 50; refine HI.out.mono ?_; rintro e w2 ⟨rfl, T2⟩)
          go_roundg (gk - 1)
          case measure => have := HG.out; omega
          case rel =>
            have hD := HDD.out
            have hS := Tm.depths_snoc t.args j x HX.out
            have hV := HV.out
            refine ⟨j + 1, dd, show _ = _ by have := HG.out; omega, by omega, by go_num, rfl, by omega, ?_, Tr.trans T2⟩
            show _ = _
            rw [hS]; omega
      · go_wp2_with fail
        go_ret
        have hD := HDD.out
        have : j = t.args.length := by omega
        rw [this, List.take_length] at hD
        refine ⟨ret_int' ?_, HT1.out.trans Tr⟩
        rw [Tm.depth_eq]; omega
end Go.Proofs.Ytoihjobdfjajfaa

/- The document's formed, Good. -/
namespace Go.Proofs.Ytoihjobdfjajfaa
set_option linter.unusedVariables false
set_option linter.unusedSimpArgs false
open Go.RowKit

theorem formed_01 {α : Type} {t : Tm α} (h : t.kind = 0 ∨ t.kind = 1) : formedB t = goodOneB t := by
  by_cases hl : t.args.length = 0
  · exact formed_leaf hl
  · have : goodOneB t = false := by
      rcases h with h | h
      · rw [goodOneB_0 t h]; simp [hl]
      · rw [goodOneB_1 t h]; simp [hl]
    rw [formed_eq, this]; rfl
theorem formed_no {α : Type} {t x : Tm α} {j : Nat} (h : t.args[j]? = some x) (hx : formedB x = false) : formedB t = false := by
  rw [formed_eq, all_no _ _ _ _ h hx, Bool.and_false]
/-- At the head of the loop over the args. -/
def FormR (l : List LT) (w1 : World) (g : Nat) (i : Value) (wr : World) : Prop := ∃ j : Nat, Hid (j + g = l.length) ∧ j ≤ l.length ∧ i = .int .i64 j ∧ Hid ((l.take j).all formedB = true) ∧ Turned (fun _ => False) w1 wr

set_option maxRecDepth 100000 in
set_option maxHeartbeats 1600000 in
theorem formed130 (p : Nat → Prop) (m : Nat) : ∀ (t : LT) (w : World), t.depth ≤ m → t.In p w →
    Calls Try.prog 130 #[t.val] w fun e w' => e = .returned (.bool (formedB t)) ∧ Turned (fun _ => False) w w' := by
  induction m with
  | zero => intro t w h; have := Tm.depth_pos t; omega
  | succ k ih =>
  intro t w hd ht
  have hname := ht.name
  have hl := ht.len
  have hal : t.args.length ≤ 9223372036854775807 := by have := hl.1; have := hl.2.1; unfold maxLen at this; omega
  have hL := fun W h => (LT.In.lies (p := p) (w := W) (t := t) h)
  rw [LT.val_eq]
  obtain ⟨a, ha⟩ : ∃ a, a = t.at_.1 := ⟨_, rfl⟩
  obtain ⟨c, hc⟩ : ∃ c, c = t.at_.2 := ⟨_, rfl⟩
  rw [← ha] at hL
  rw [← ha, ← hc]
  have HL := Lib.hid hL
  have HIN := Lib.hid ht
  have HD := Lib.hid hd
  have HIH := Lib.hid ih
  clear ha hc hl hL ht hd ih
  have T := fun o => (Turned.refl (fun _ => False) w).alloc o
  have HLN : Hid (((t.args.length : Int) == 0) = decide (t.args = [])) := by
    show _ = _
    rw [Bool.eq_iff_iff]; simp
  by_cases h0 : t.kind = 0
  · have k0 : (t.kind == 0) = true := by simp [h0]
    have HR := Lib.hid ((formed_01 (.inl h0)).trans (goodOneB_0 t h0))
    clear h0
    go_enter Try.func130, Try.ntmps130
    go_wp2_with fail
    all_goals
      go_ret
      refine ⟨ret_bool ?_, ?_⟩
      · have hln := HLN.out
        rw [HR.out]
        simp [*] <;> first | omega | (intros; omega)
      · exact T _
  by_cases h1 : t.kind = 1
  · have k0 : (t.kind == 0) = false := by simp [h0]
    have k1 : (t.kind == 1) = true := by simp [h1]
    have HR := Lib.hid ((formed_01 (.inr h1)).trans (goodOneB_1 t h1))
    clear h0 h1
    go_enter Try.func130, Try.ntmps130
    go_wp2_with fail
    all_goals
      go_ret
      refine ⟨ret_bool ?_, ?_⟩
      · have hln := HLN.out
        rw [HR.out]
        simp [*] <;> first | omega | (intros; omega)
      · exact T _
  by_cases h2 : t.kind = 2
  rotate_left
  · have k0 : (t.kind == 0) = false := by simp [h0]
    have k1 : (t.kind == 1) = false := by simp [h1]
    have k2 : (t.kind == 2) = false := by simp [h2]
    have HR : Hid (formedB t = false) := by show _ = _; rw [formed_eq, goodOneB_3 t h0 h1 h2]; rfl
    clear h0 h1 h2
    go_enter Try.func130, Try.ntmps130
    go_wp2_with fail
    go_ret
    exact ⟨ret_bool HR.out.symm, T _⟩
  have k0 : (t.kind == 0) = false := by simp [h0]
  have k1 : (t.kind == 1) = false := by simp [h1]
  have k2 : (t.kind == 2) = true := by simp [h2]
  have HR : Hid (formedB t = ((decide (t.n = 0) && (goodNameB t.name && decide (t.args.length ≤ 8))) && t.args.all formedB)) := by show _ = _; rw [formed_eq, goodOneB_2 t h2]
  clear h0 h1 h2
  by_cases hn : t.n = 0
  rotate_left
  · have kn : (t.n != 0) = true := by simp [hn]
    have HR2 : Hid (formedB t = false) := by show _ = _; rw [HR.out]; simp [hn]
    clear hn
    go_enter Try.func130, Try.ntmps130
    go_wp2_with fail
    go_ret
    exact ⟨ret_bool HR2.out.symm, T _⟩
  have kn : (t.n != 0) = false := by simp [hn]
  have HN := Lib.hid hn
  clear hn
  have hnm : t.name.size ≤ 9223372036854775807 := by unfold maxLen at hname; omega
  clear hname
  by_cases hs : 64 < t.name.size
  · have hz : decide (t.name.size ≤ 64) = false := by simp; omega
    have HR2 : Hid (formedB t = false) := by show _ = _; rw [HR.out]; unfold goodNameB; rw [hz]; simp
    clear hz
    go_enter Try.func130, Try.ntmps130
    go_wp2_with fail
    go_ret
    exact ⟨ret_bool HR2.out.symm, T _⟩
  have ks : decide ((64 : Int) < (t.name.size : Int)) = false := by simp; omega
  have hs64 : t.name.size ≤ 64 := by omega
  clear hs
  by_cases hr : 8 < t.args.length
  · have hz : decide (t.args.length ≤ 8) = false := by simp; omega
    have HR2 : Hid (formedB t = false) := by show _ = _; rw [HR.out, hz]; simp
    clear hz
    go_enter Try.func130, Try.ntmps130
    go_wp2_with fail
    go_ret
    exact ⟨ret_bool HR2.out.symm, T _⟩
  have kr : decide ((8 : Int) < (t.args.length : Int)) = false := by simp; omega
  have hr8 : t.args.length ≤ 8 := by omega
  clear hr
  have HR3 : Hid (formedB t = (t.name.data.toList.all okByte && t.args.all formedB)) := by show _ = _; rw [HR.out, HN.out]; unfold goodNameB; simp [hs64, hr8]
  have HT1 := Lib.hid (T (.cells #[.int .i64 t.kind, .int .i64 t.n, .string t.name, .slice a t.args.length c] 41))
  have hb1 := boxed w #[.int .i64 t.kind, .int .i64 t.n, .string t.name, .slice a t.args.length c] 41
  have HTB := And.intro HT1 (Lib.hid hb1)
  clear T HT1 hb1 HR
  go_enter Try.func130, Try.ntmps130
  go_wp2_with fail
  revert HTB
  generalize w.alloc (.cells #[.int .i64 t.kind, .int .i64 t.n, .string t.name, .slice a t.args.length c] 41) = w1
  intro HTB
  obtain ⟨HT1, HB1⟩ := HTB
  have b2 : w1.cell? ⟨w.heap.size, 2, none⟩ = some (.string t.name) := HB1.out 2
  have b3 : w1.cell? ⟨w.heap.size, 3, none⟩ = some (.slice a t.args.length c) := HB1.out 3
  have B3 := Lib.hid b3
  clear HB1
  go_loop [3] (fun i => ∃ j : Nat, j ≤ t.name.size ∧ i = .int .i64 j ∧ Hid ((t.name.data.toList.take j).all okByte = true)) (fun i => t.name.size - (intOf i).toNat)
  case atStart => exact ⟨0, Nat.zero_le _, rfl, rfl⟩
  case round =>
    obtain ⟨j, hj, rfl, HA⟩ := hrel
    by_cases hjl : j < t.name.size
    · have hx : t.name.data.toList[j]? = some (t.name.data.toList[j]'(by simpa using hjl)) := List.getElem?_eq_getElem _
      obtain ⟨x, hxe⟩ : ∃ x, x = t.name.data.toList[j]'(by simpa using hjl) := ⟨_, rfl⟩
      rw [← hxe] at hx
      have HX := Lib.hid hx
      clear hx
      obtain ⟨n, hn⟩ : ∃ n, n = x.toNat := ⟨_, rfl⟩
      have hgi : (t.name[j]'hjl).toNat = n := by rw [hn, hxe]; rfl
      clear hxe
      by_cases hok : okByte x = true
      · have h9 : n = 9 ∨ n = 10 ∨ (32 ≤ n ∧ n ≤ 126) := by unfold okByte at hok; rw [← hn] at hok; simpa using hok
        have HO := Lib.hid hok
        clear hok
        have HN := Lib.hid hn
        clear hn
        rcases h9 with h9 | h9 | ⟨h8, h9⟩
        · have u1 : n ≤ 9 := by omega
          have u2 : 9 ≤ n := by omega
          have t1 : ((n : Int) != 9) = false := by simp; omega
          clear h9
          go_wp2_with fail
          go_round
          case rel => exact ⟨j + 1, by omega, by go_num, show _ = true by rw [all_snoc _ _ _ _ HX.out, HA.out, HO.out]; rfl⟩
          case measure => simp [intOf]; omega
        · have u1 : n ≤ 10 := by omega
          have u2 : 10 ≤ n := by omega
          have t1 : ((n : Int) != 9) = true := by simp; omega
          have t2 : ((n : Int) != 10) = false := by simp; omega
          clear h9
          go_wp2_with fail
          go_round
          case rel => exact ⟨j + 1, by omega, by go_num, show _ = true by rw [all_snoc _ _ _ _ HX.out, HA.out, HO.out]; rfl⟩
          case measure => simp [intOf]; omega
        · have t1 : decide ((n : Int) < 32) = false := by simp; omega
          have t2 : decide ((126 : Int) < (n : Int)) = false := by simp; omega
          go_wp2_with fail
          all_goals
            go_round
            case rel => exact ⟨j + 1, by omega, by go_num, show _ = true by rw [all_snoc _ _ _ _ HX.out, HA.out, HO.out]; rfl⟩
            case measure => simp [intOf]; omega
      · have ho : okByte x = false := by simpa using hok
        have h9 : ¬ (n = 9 ∨ n = 10 ∨ (32 ≤ n ∧ n ≤ 126)) := by unfold okByte at ho; rw [← hn] at ho; simpa using ho
        have h10 : n ≤ 31 ∨ 127 ≤ n := by omega
        have t1 : ((n : Int) != 9) = true := by simp; omega
        have t2 : ((n : Int) != 10) = true := by simp; omega
        have HO := Lib.hid ho
        clear ho hok h9
        have HN := Lib.hid hn
        clear hn
        rcases h10 with h10 | h10
        all_goals
          go_wp2_with fail
          go_ret
          refine ⟨ret_bool ?_, HT1.out⟩
          rw [HR3.out, all_no _ _ _ _ HX.out HO.out]; rfl
    · have hje : j = t.name.size := by omega
      have hA := HA.out
      rw [hje, List.take_of_length_le (by simp)] at hA
      have HR4 : Hid (formedB t = t.args.all formedB) := by show _ = _; rw [HR3.out, hA, Bool.true_and]
      clear hA HA hje
      go_wp2_with fail
      go_loopg [5] t.args.length (fun g i wr => FormR t.args w1 g i wr)
      case atStart => exact ⟨0, Nat.zero_add _, Nat.zero_le _, rfl, rfl, Turned.refl _ _⟩
      case round =>
        obtain ⟨i, HG, hi, rfl, HE, Tr⟩ := hrel
        have hb := Tr.cell0 B3.out
        by_cases hil : i < t.args.length
        · have hx : t.args[i]? = some t.args[i] := List.getElem?_eq_getElem hil
          obtain ⟨x, hxe⟩ : ∃ x : LT, x = t.args[i] := ⟨_, rfl⟩
          rw [← hxe] at hx
          clear hxe
          have hin := HIN.out.turned0 (HT1.out.trans Tr)
          have hxin := (LT.ins_iff _).1 hin.args x (List.mem_of_getElem? hx)
          obtain ⟨b, o, rfl, _, c0, c1, c2, c3⟩ := (HL.out _ hin).cell hx
          have hih := HIH.out x wr (by have := arg_depth (List.mem_of_getElem? hx); have := HD.out; omega) hxin
          rw [LT.val_eq] at hih
          have HX := Lib.hid hx
          have HI := Lib.hid hih
          clear hx hih hxin hin
          cases hf : formedB x with
          | true =>
            rw [hf] at HI
            have HF := Lib.hid hf
            clear hf
            go_wp2_with (go_at_call 130; refine HI.out.mono ?_; rintro e w2 ⟨rfl, T2⟩)
            go_roundg (gk - 1)
            case measure => have := HG.out; omega
            case rel => exact ⟨i + 1, show _ = _ by have := HG.out; omega, by omega, by go_num, show _ = true by rw [all_snoc _ _ _ _ HX.out, HE.out, HF.out]; rfl, Tr.trans T2⟩
          | false =>
            rw [hf] at HI
            have HF := Lib.hid hf
            clear hf
            go_wp2_with (go_at_call 130; refine HI.out.mono ?_; rintro e w2 ⟨rfl, T2⟩)
            go_ret
            exact ⟨ret_bool (formed_no HX.out HF.out).symm, HT1.out.trans (Tr.trans T2)⟩
        · have hie : i = t.args.length := by omega
          go_wp2_with fail
          go_ret
          refine ⟨ret_bool ?_, HT1.out.trans Tr⟩
          have h := HE.out
          rw [hie, List.take_length] at h
          rw [HR4.out, h]

set_option maxHeartbeats 1600000 in
theorem rGood45 {p : Nat → Prop} {t : LT} {w : World} (ht : t.In p w) :
    Calls Try.prog 45 #[t.val] w fun e w' => e = .returned (.bool (goodB t)) ∧ Turned (fun _ => False) w w' := by
  obtain ⟨bx, hbx⟩ : ∃ bx : Obj, bx = .cells #[.int .i64 t.kind, .int .i64 t.n, .string t.name, .slice t.at_.1 t.args.length t.at_.2] 41 := ⟨_, rfl⟩
  have T1 := (Turned.refl (fun _ => False) w).alloc bx
  have hin : ∀ W, Turned (fun _ => False) (w.alloc bx) W → t.In p W := fun W h => ht.turned0 (T1.trans h)
  have hc : ∀ W, Turned (fun _ => False) (w.alloc bx) W → W.cell? ⟨w.heap.size, 0, none⟩ = some (.int .i64 t.kind) ∧ W.cell? ⟨w.heap.size, 1, none⟩ = some (.int .i64 t.n) ∧ W.cell? ⟨w.heap.size, 2, none⟩ = some (.string t.name) ∧ W.cell? ⟨w.heap.size, 3, none⟩ = some (.slice t.at_.1 t.args.length t.at_.2) := by
    intro W h
    subst hbx
    obtain ⟨hb, _⟩ := box4 h
    obtain ⟨c0, c1, c2, c3, _⟩ := cells4 hb
    exact ⟨c0, c1, c2, c3⟩
  have h1 := fun W h => rSize49 p t.depth t 2000 W (Nat.le_refl _) (by omega) (hin W h)
  have h2 := fun W h => rDepth50 p 64 t W (by omega) (hin W h)
  have h3 := fun W h => formed130 p t.depth t W (Nat.le_refl _) (hin W h)
  rw [LT.val_eq] at h1 h2 h3 ⊢
  replace h1 : ∀ W (h : Turned (fun _ => False) (w.alloc bx) W), Calls Try.prog 49 #[.agg #[.int .i64 t.kind, .int .i64 t.n, .string t.name, .slice t.at_.1 t.args.length t.at_.2], .int .i64 2000] W fun e w' => e = .returned (.int .i64 ((min t.size 2001 : Nat) : Int)) ∧ Turned (fun _ => False) W w' := h1
  replace h2 : ∀ W (h : Turned (fun _ => False) (w.alloc bx) W), Calls Try.prog 50 #[.agg #[.int .i64 t.kind, .int .i64 t.n, .string t.name, .slice t.at_.1 t.args.length t.at_.2], .int .i64 64] W fun e w' => e = .returned (.int .i64 ((min t.depth 65 : Nat) : Int)) ∧ Turned (fun _ => False) W w' := h2
  have H1 := Lib.hid h1
  have H2 := Lib.hid h2
  have H3 := Lib.hid h3
  have HC := Lib.hid hc
  have HT := Lib.hid T1
  subst hbx
  clear h1 h2 h3 hc T1 hin
  by_cases s1 : t.size ≤ 2000
  · by_cases s2 : t.depth ≤ 64
    · have s1' : decide (((min t.size 2001 : Nat) : Int) ≤ 2000) = true := by simp; omega
      have s2' : decide (((min t.depth 65 : Nat) : Int) ≤ 64) = true := by simp; omega
      have HR : Hid (goodB t = formedB t) := by show _ = _; unfold goodB formedB; simp [s1, s2]
      go_enter Try.func45, Try.ntmps45
      go_wp2_with (first
        | (go_at_call 49; refine (H1.out _ (Turned.refl _ _)).mono ?_; rintro e w2 ⟨rfl, T2⟩; obtain ⟨c0, c1, c2, c3⟩ := HC.out _ T2)
        | (go_at_call 50; refine (H2.out _ T2).mono ?_; rintro e w3 ⟨rfl, T3⟩; obtain ⟨d0, d1, d2, d3⟩ := HC.out _ (T2.trans T3))
        | (go_at_call 130; refine (H3.out _ (T2.trans T3)).mono ?_; rintro e w4 ⟨rfl, T4⟩))
      go_ret
      exact ⟨ret_bool HR.out.symm, HT.out.trans (T2.trans (T3.trans T4))⟩
    · have s1' : decide (((min t.size 2001 : Nat) : Int) ≤ 2000) = true := by simp; omega
      have s2' : decide (((min t.depth 65 : Nat) : Int) ≤ 64) = false := by simp; omega
      have HR : Hid (goodB t = false) := by show _ = _; unfold goodB; simp [s2]
      go_enter Try.func45, Try.ntmps45
      go_wp2_with (first
        | (go_at_call 49; refine (H1.out _ (Turned.refl _ _)).mono ?_; rintro e w2 ⟨rfl, T2⟩; obtain ⟨c0, c1, c2, c3⟩ := HC.out _ T2)
        | (go_at_call 50; refine (H2.out _ T2).mono ?_; rintro e w3 ⟨rfl, T3⟩; obtain ⟨d0, d1, d2, d3⟩ := HC.out _ (T2.trans T3)))
      go_ret
      exact ⟨ret_bool HR.out.symm, HT.out.trans (T2.trans T3)⟩
  · have s1' : decide (((min t.size 2001 : Nat) : Int) ≤ 2000) = false := by simp; omega
    have HR : Hid (goodB t = false) := by show _ = _; unfold goodB; simp [s1]
    go_enter Try.func45, Try.ntmps45
    go_wp2_with (go_at_call 49; refine (H1.out _ (Turned.refl _ _)).mono ?_; rintro e w2 ⟨rfl, T2⟩; obtain ⟨c0, c1, c2, c3⟩ := HC.out _ T2)
    go_ret
    exact ⟨ret_bool HR.out.symm, HT.out.trans T2⟩
end Go.Proofs.Ytoihjobdfjajfaa

/- IndexSafe: the document's key; what could be made alike has keys that may be. -/
namespace Go.Proofs.Ytoihjobdfjajfaa
open Go.RowKit Go.Maps
set_option linter.unusedVariables false
set_option linter.unusedSimpArgs false
theorem key_neq63 (a : Key) (W : World) : (binOp .neq 63 (.agg #[.int .i64 a.kind, .int .i64 a.n, .string a.name, .int .i64 a.arity]) (.agg #[.int .i64 a.kind, .int .i64 a.n, .string a.name, .int .i64 a.arity])).run Try.prog W = .ok (.bool false) W := by
  rw [run_neq_struct, show (10000 : Nat) = 9999 + 1 from rfl, run_equalIn_agg _ _ _ _ _ fields63 stood63]
  unfold Program.fieldsOf
  rw [Try.underlying63]
  simp [go_sem, Try.underlying3, Try.underlying2, Try.underlying9]
theorem good_kind2 {t x : LT} {r : List LT} (g : goodB t = true) (h : t.args = x :: r) (h0 : ¬ x.kind = 0) (h1 : ¬ x.kind = 1) : x.kind = 2 := by
  have := good_ones g x (by rw [Tm.flat_eq, h]; exact List.mem_cons_of_mem _ (by simp only [Tm.flats]; exact List.mem_append_left _ (by rw [Tm.flat_eq]; exact List.mem_cons_self ..)))
  by_cases h2 : x.kind = 2
  · exact h2
  · rw [goodOneB_3 x h0 h1 h2] at this; cases this
set_option maxRecDepth 100000 in
set_option maxHeartbeats 3200000 in
theorem keyOf115 {p : Nat → Prop} {t : LT} {w : World} (ht : t.In p w) (hs : slim t) :
    Calls Try.prog 115 #[t.val] w fun e w' => e = .returned (keyOf t).val ∧ Turned (fun _ => False) w w' := by
  have hlm := hs t (by rw [Tm.flat_eq]; exact List.mem_cons_self ..)
  obtain ⟨ad, had⟩ : ∃ a, a = t.at_.1 := ⟨_, rfl⟩
  have hlies := fun W (h : t.In p W) => h.lies
  rw [← had] at hlies
  obtain ⟨m, hm⟩ : ∃ m, m = t.args.length := ⟨_, rfl⟩
  obtain ⟨b1, hb1⟩ : ∃ bx : Obj, bx = .cells #[.int .i64 t.kind, .int .i64 t.n, .string t.name, .slice ad m t.at_.2] 41 := ⟨_, rfl⟩
  obtain ⟨b2, hb2⟩ : ∃ bx : Obj, bx = .cells #[.int .i64 0, .int .i64 0, .string ⟨#[]⟩, .int .i64 0] 63 := ⟨_, rfl⟩
  have T1 := ((Turned.refl (fun _ => False) w).alloc b1).alloc b2
  have hg := rGood45 (ht.turned0 T1)
  have hc : ∀ W, Turned (fun _ => False) ((w.alloc b1).alloc b2) W → W.heap[w.heap.size]? = some b1 ∧ W.heap[w.heap.size + 1]? = some b2 ∧ w.heap.size + 1 < W.heap.size := by
    intro W h
    have hs := h.size
    simp at hs
    exact ⟨(h.block _ (by simp; omega) (fun f => f)).trans (heap_alloc2_old w b1 b2), (h.block _ (by simp) (fun f => f)).trans (heap_alloc2_new w b1 b2), by omega⟩
  rw [LT.val_eq, ← had, ← hm] at hg ⊢
  subst hb1 hb2
  have HLI := Lib.hid hlies
  have hcap := ht.len
  have hca : m ≤ t.at_.2 := by rw [hm]; exact hcap.1
  have hcm : m ≤ 12 := by rw [hm]; exact hlm
  clear had hlies hcap hlm
  have HG := Lib.hid hg
  have HC := Lib.hid hc
  have HT := Lib.hid T1
  have HI := Lib.hid ht
  clear hg hc T1 ht hs
  by_cases g : goodB t = true
  · cases hargs : t.args with
    | nil =>
      have HK := Lib.hid (keyOf_nil hargs)
      have hm0 : m = 0 := by rw [hm, hargs]; rfl
      have HGB := Lib.hid g
      clear hargs hm g
      subst hm0
      go_enter Try.func115, Try.ntmps115
      go_wp2_with (go_at_call 45; refine HG.out.mono ?_; rintro e w2 ⟨rfl, T2⟩; rw [HGB.out]; obtain ⟨h1, h2, hl⟩ := HC.out _ T2; obtain ⟨c0, c1, c2, c3, _⟩ := cells4 h1; obtain ⟨d0, d1, d2, d3, f0, f1, f2, f3⟩ := cells4 h2; have H1 := Lib.hid h1; have H2 := Lib.hid h2; clear h1 h2)
      refine bodyPost_ret (v := Key.zero.val) (results_cell_row Try.results115 _ _ (w.heap.size + 1) 63 _ (0, 0) _ rfl (set4 H2.out) Try.underlying63 rfl (by kernel_rfl)) rfl ⟨by rw [HK.out], turned4 (HT.out.trans T2) (by omega)⟩
    | cons x r =>
      have hal2 : 0 < m := by rw [hm, hargs]; simp
      have hal : ((m : Int) == 0) = false := by simp; omega
      have hx0 : t.args[0]? = some x := by rw [hargs]; rfl
      obtain ⟨b, o, rfl, _⟩ := HLI.out w HI.out (by rw [hargs]; simp)
      have hxc := fun W (h : Turned (fun _ => False) w W) => (HLI.out W (HI.out.turned0 h)).at hx0
      simp only [Nat.zero_mul, Nat.add_zero] at hxc
      have HX := Lib.hid hxc
      have HK := Lib.hid (keyOf_cons hargs g)
      have hk2 := good_kind2 g hargs
      have HGB := Lib.hid g
      clear hxc hargs hx0 hm g
      by_cases h0 : x.kind = 0
      · have k0 : (x.kind == 0) = true := by simp [h0]
        have HK1 := Lib.hid (keyOf1_0 h0)
        clear h0 hk2
        go_enter Try.func115, Try.ntmps115
        go_wp2_with (go_at_call 45; refine HG.out.mono ?_; rintro e w2 ⟨rfl, T2⟩; rw [HGB.out]; obtain ⟨h1, h2, hl⟩ := HC.out _ T2; obtain ⟨c0, c1, c2, c3, _⟩ := cells4 h1; obtain ⟨d0, d1, d2, d3, f0, f1, f2, f3⟩ := cells4 h2; have H1 := Lib.hid h1; have H2 := Lib.hid h2; clear h1 h2; obtain ⟨x0, x1, x2, x3⟩ := HX.out _ (HT.out.trans T2))
        refine bodyPost_ret (v := Key.zero.val) (results_cell_row Try.results115 _ _ (w.heap.size + 1) 63 _ (0, 0) _ rfl (set4 H2.out) Try.underlying63 rfl (by kernel_rfl)) rfl ⟨by rw [HK.out, HK1.out], turned4 (HT.out.trans T2) (by omega)⟩
      · have k0 : (x.kind == 0) = false := by simp [h0]
        by_cases h1 : x.kind = 1
        · have k1 : (x.kind == 1) = true := by simp [h1]
          have HK1 := Lib.hid (keyOf1_1 h1)
          clear h0 h1 hk2
          go_enter Try.func115, Try.ntmps115
          go_wp2_with (go_at_call 45; refine HG.out.mono ?_; rintro e w2 ⟨rfl, T2⟩; rw [HGB.out]; obtain ⟨h1, h2, hl⟩ := HC.out _ T2; obtain ⟨c0, c1, c2, c3, _⟩ := cells4 h1; obtain ⟨d0, d1, d2, d3, f0, f1, f2, f3⟩ := cells4 h2; have H1 := Lib.hid h1; have H2 := Lib.hid h2; clear h1 h2; obtain ⟨x0, x1, x2, x3⟩ := HX.out _ (HT.out.trans T2))
          refine bodyPost_ret (v := .agg #[.int .i64 1, .int .i64 x.n, .string ⟨#[]⟩, .int .i64 0]) (results_cell_row Try.results115 _ _ (w.heap.size + 1) 63 _ (0, 0) _ rfl (set4_alloc H2.out) Try.underlying63 rfl (by kernel_rfl)) rfl ⟨by rw [HK.out, HK1.out]; rfl, (turned4 (HT.out.trans T2) (by omega)).alloc _⟩
        · have k1 : (x.kind == 1) = false := by simp [h1]
          have HK1 := Lib.hid (keyOf1_2 h0 h1)
          have HE := Lib.hid (hk2 h0 h1)
          clear h0 h1 hk2
          go_enter Try.func115, Try.ntmps115
          go_wp2_with (go_at_call 45; refine HG.out.mono ?_; rintro e w2 ⟨rfl, T2⟩; rw [HGB.out]; obtain ⟨h1, h2, hl⟩ := HC.out _ T2; obtain ⟨c0, c1, c2, c3, _⟩ := cells4 h1; obtain ⟨d0, d1, d2, d3, f0, f1, f2, f3⟩ := cells4 h2; have H1 := Lib.hid h1; have H2 := Lib.hid h2; clear h1 h2; obtain ⟨x0, x1, x2, x3⟩ := HX.out _ (HT.out.trans T2))
          refine bodyPost_ret (v := .agg #[.int .i64 2, .int .i64 0, .string x.name, .int .i64 x.args.length]) (results_cell_row Try.results115 _ _ (w.heap.size + 1) 63 _ (0, 0) _ rfl (set4_alloc H2.out) Try.underlying63 rfl (by kernel_rfl)) rfl ⟨by rw [HK.out, HK1.out]; unfold Key.val; rw [HE.out], (turned4 (HT.out.trans T2) (by omega)).alloc _⟩
  · have g' : goodB t = false := by simpa using g
    have HK := Lib.hid (keyOf_bad g')
    have HGB := Lib.hid g'
    clear g hm g'
    go_enter Try.func115, Try.ntmps115
    go_wp2_with (go_at_call 45; refine HG.out.mono ?_; rintro e w2 ⟨rfl, T2⟩; rw [HGB.out]; obtain ⟨h1, h2, hl⟩ := HC.out _ T2; obtain ⟨c0, c1, c2, c3, _⟩ := cells4 h1; obtain ⟨d0, d1, d2, d3, f0, f1, f2, f3⟩ := cells4 h2; have H1 := Lib.hid h1; have H2 := Lib.hid h2; clear h1 h2)
    refine bodyPost_ret (v := Key.zero.val) (results_cell_row Try.results115 _ _ (w.heap.size + 1) 63 _ (0, 0) _ rfl (set4 H2.out) Try.underlying63 rfl (by kernel_rfl)) rfl ⟨by rw [HK.out], turned4 (HT.out.trans T2) (by omega)⟩
end Go.Proofs.Ytoihjobdfjajfaa

/- A region that draws its order, where each operation brings, in any world behind the start, a value of which something is known: ONE obligation an operation, in whatever order they come up. -/
namespace Go.Proofs.Ytoihjobdfjajfaa
open Go

/-- What a step brings: a value (and a world) with F; it does not panic. -/
def Brings (P : Program) (F : Value → World → Prop) : Result Next → Prop
  | .ok (.value v) w' => F v w'
  | .ok .skip w' => F undef w'
  | .ok (.enter f args) w' => Calls P f args w' fun e w'' => ∃ v, e = .returned v ∧ F v w''
  | .ok (.row row args) w' => Rows P row args w' fun v w'' => F v w''
  | _ => False
theorem Brings.upon {P : Program} {o : Oper} {a : Act} {K : Act → World → Prop} {Q : Exit → Act → World → Prop} {F : Value → World → Prop} {r : Result Next} (h : Brings P F r) (hK : ∀ v w, F v w → K (a.put o.dst v) w) : o.upon P a K Q r := by
  cases r with
  | ok n w' =>
    cases n <;> simp only [Brings, Oper.upon] at h ⊢ <;> first
      | exact hK _ _ h
      | exact Calls.mono h (fun e w'' he => by obtain ⟨v, rfl, hv⟩ := he; exact hK _ _ hv)
      | exact Rows.mono h (fun _ _ hv => hK _ _ hv)
      | exact h.elim
  | halt x w' => exact (by cases x <;> exact h.elim)

def GD (G : Tmp → Value → World → Prop) : Option Tmp → Value → World → Prop
  | none, _, _ => True
  | some d, v, w => G d v w
/-- What is known of a slot that an operation looks at. -/
def Looks (G : Tmp → Value → World → Prop) (ops : Array Oper) (a0 a : Act) (w : World) (s : Tmp) : Prop :=
  if s ∈ ops.toList.filterMap (·.dst) then G s (a.tmps.getD s undef) w else a.tmps.getD s undef = a0.tmps.getD s undef
def StepOk (P : Program) (G : Tmp → Value → World → Prop) (ops : Array Oper) (a0 : Act) (w0 : World) (o : Oper) : Prop :=
  ∀ a w, Turned (fun _ => False) w0 w → (∀ s ∈ o.looksAt ops, Looks G ops a0 a w s) →
    (Region.wanted o (yielded ops a.tmps) = true → Brings P (fun v w' => Turned (fun _ => False) w w' ∧ GD G o.dst v w') ((execOp a.eval o).run P w)) ∧
    (Region.wanted o (yielded ops a.tmps) = false → GD G o.dst undef w)
def StepsOk (P : Program) (G : Tmp → Value → World → Prop) (ops : Array Oper) (a0 : Act) (w0 : World) : List Oper → Prop
  | [] => True
  | o :: l => StepOk P G ops a0 w0 o ∧ StepsOk P G ops a0 w0 l
theorem StepsOk.at {P : Program} {G : Tmp → Value → World → Prop} {ops : Array Oper} {a0 : Act} {w0 : World} {l : List Oper} (h : StepsOk P G ops a0 w0 l) {o : Oper} (ho : o ∈ l) : StepOk P G ops a0 w0 o := by
  induction l with
  | nil => cases ho
  | cons x l ih =>
    rcases List.mem_cons.1 ho with rfl | ho
    · exact h.1
    · exact ih h.2 ho
/-- The frame of the region, looked at by the kernel. -/
def chkPair (ops : Array Oper) (N i j : Nat) (oi oj : Oper) : Bool :=
  match oj.dst with
  | some d => decide (d < N) && ((!(oi.looksAt ops).contains d || oi.after.any fun e => Region.binds .any e && e.on == j) && (i == j || oi.dst != some d))
  | none => true
def chkOrd (i : Nat) (oi : Oper) : Bool := oi.after.all fun e => !Region.binds .any e || decide (e.on < i)
def chkAny (ops : Array Oper) (N : Nat) : Bool :=
  (List.range ops.size).all fun i => ((ops[i]?).map fun oi => chkOrd i oi && (List.range ops.size).all fun j => ((ops[j]?).map fun oj => chkPair ops N i j oi oj).getD true).getD true
theorem chkAny_at {ops : Array Oper} {N : Nat} (h : chkAny ops N = true) {i : Nat} {oi : Oper} (hi : ops[i]? = some oi) :
    chkOrd i oi = true ∧ ∀ j oj, ops[j]? = some oj → chkPair ops N i j oi oj = true := by
  have hlt := (Array.getElem?_eq_some_iff.1 hi).1
  have := List.all_eq_true.1 h i (List.mem_range.2 hlt)
  rw [hi] at this
  simp only [Option.map_some, Option.getD_some, Bool.and_eq_true] at this
  refine ⟨this.1, fun j oj hj => ?_⟩
  have hlj := (Array.getElem?_eq_some_iff.1 hj).1
  have := List.all_eq_true.1 this.2 j (List.mem_range.2 hlj)
  rw [hj] at this
  simpa using this
theorem chkPair_spec {ops : Array Oper} {N i j : Nat} {oi oj : Oper} (h : chkPair ops N i j oi oj = true) {d : Tmp} (hd : oj.dst = some d) :
    d < N ∧ (d ∈ oi.looksAt ops → ∃ e ∈ oi.after, Region.binds .any e = true ∧ e.on = j) ∧ (i ≠ j → oi.dst ≠ some d) := by
  unfold chkPair at h
  rw [hd] at h
  simp only [Bool.and_eq_true, decide_eq_true_eq, Bool.or_eq_true, Bool.not_eq_true', beq_iff_eq, bne_iff_ne] at h
  obtain ⟨h1, h2, h3⟩ := h
  refine ⟨h1, fun hm => ?_, fun hij => ?_⟩
  · rcases h2 with h2 | h2
    · rw [← Bool.not_eq_true, List.contains_iff_mem] at h2
      exact absurd hm h2
    · obtain ⟨e, he, hb⟩ := (Array.any_eq_true' ).1 h2
      simp only [Bool.and_eq_true, beq_iff_eq] at hb
      exact ⟨e, he, hb⟩
  · rcases h3 with h3 | h3
    · exact absurd h3 hij
    · exact h3

structure InvA (G : Tmp → Value → World → Prop) (ops : Array Oper) (a0 a : Act) (listed : Array Bool) (w : World) : Prop where
  defers : a.defers = a0.defers
  size : a.tmps.size = a0.tmps.size
  lsize : listed.size = ops.size
  done : ∀ j oj d, ops[j]? = some oj → oj.dst = some d → listed.getD j false = true → G d (a.tmps.getD d undef) w
  rest : ∀ d, (∀ j oj, ops[j]? = some oj → oj.dst = some d → listed.getD j false = false) → a.tmps.getD d undef = a0.tmps.getD d undef
theorem getD_set (t : Array Value) (d s : Nat) (v : Value) (h : d < t.size) : (t.setIfInBounds d v).getD s undef = if s = d then v else t.getD s undef := by
  by_cases e : s = d
  · subst e; simp [h]
  · simp only [Array.getD_eq_getD_getElem?, Array.getElem?_setIfInBounds_ne (Ne.symm e), if_neg e]
theorem count_set {l : List Bool} {i : Nat} (h : l[i]? = some false) : (l.set i true).count false + 1 = l.count false := by
  induction l generalizing i with
  | nil => simp at h
  | cons x l ih =>
    cases i with
    | zero => simp at h; subst h; simp
    | succ i =>
      simp at h
      have := ih h
      simp only [List.set_cons_succ, List.count_cons]
      omega
section
variable {P : Program} {G : Tmp → Value → World → Prop} {ops : Array Oper} {a0 : Act} {w0 : World} {Q : Exit → Act → World → Prop}
theorem InvA.looks {a : Act} {listed : Array Bool} {w : World} (h : InvA G ops a0 a listed w) (hc : chkAny ops a0.tmps.size = true) {i : Nat} {oi : Oper} (hi : ops[i]? = some oi) (hr : i ∈ Region.ready .any ops listed) : ∀ s ∈ oi.looksAt ops, Looks G ops a0 a w s := by
  intro s hs
  obtain ⟨_, o', ho', hall⟩ := mem_ready.1 hr
  rw [hi] at ho'
  injection ho' with ho'
  subst ho'
  unfold Looks
  split
  · rename_i hm
    obtain ⟨oj, hoj, hd⟩ := List.mem_filterMap.1 hm
    obtain ⟨j, hj⟩ := List.getElem?_of_mem hoj
    rw [Array.getElem?_toList] at hj
    obtain ⟨e, he, hb, hon⟩ := (chkPair_spec ((chkAny_at hc hi).2 j oj hj) hd).2.1 hs
    exact h.done j oj s hj hd (hon ▸ hall e he hb)
  · rename_i hm
    refine h.rest s fun j oj hj hd => absurd (List.mem_filterMap.2 ⟨oj, ?_, hd⟩) hm
    exact List.mem_of_getElem? (by rw [Array.getElem?_toList]; exact hj)
theorem InvA.step {a : Act} {listed : Array Bool} {w w' : World} (h : InvA G ops a0 a listed w) (hc : chkAny ops a0.tmps.size = true) (hG : ∀ d v w w', Turned (fun _ => False) w w' → G d v w → G d v w') {i : Nat} {oi : Oper} (hi : ops[i]? = some oi) {v : Value} (hT : Turned (fun _ => False) w w') (hv : GD G oi.dst v w') : InvA G ops a0 (a.put oi.dst v) (listed.setIfInBounds i true) w' := by
  have hlt := (Array.getElem?_eq_some_iff.1 hi).1
  have hli : (listed.setIfInBounds i true).getD i false = true := by
    have : i < listed.size := by rw [h.lsize]; exact hlt
    simp [this]
  have hbk : ∀ j, j ≠ i → (listed.setIfInBounds i true).getD j false = listed.getD j false := fun j hj => getD_set_ne false (Ne.symm hj)
  cases hd : oi.dst with
  | none =>
    refine ⟨h.defers, h.size, by simpa using h.lsize, fun j oj d hj hdj hl => ?_, fun d hall => h.rest d fun j oj hj hdj => ?_⟩
    · by_cases e : j = i
      · subst e
        rw [hi] at hj
        injection hj with hj
        subst hj
        rw [hd] at hdj
        cases hdj
      · rw [hbk j e] at hl
        exact hG _ _ _ _ hT (h.done j oj d hj hdj hl)
    · have h2 := hall j oj hj hdj
      by_cases e : j = i
      · subst e; rw [hli] at h2; cases h2
      · rw [hbk j e] at h2; exact h2
  | some c =>
    have hcN := (chkPair_spec ((chkAny_at hc hi).2 i oi hi) hd).1
    rw [hd] at hv
    have hsz : c < a.tmps.size := by rw [h.size]; exact hcN
    refine ⟨h.defers, by simpa [Act.put] using h.size, by simpa using h.lsize, fun j oj d hj hdj hl => ?_, fun d hall => ?_⟩
    · show G d ((a.tmps.setIfInBounds c v).getD d undef) w'
      rw [getD_set _ _ _ _ hsz]
      by_cases e : j = i
      · subst e
        rw [hi] at hj
        injection hj with hj
        subst hj
        rw [hd] at hdj
        injection hdj with hdj
        subst hdj
        rw [if_pos rfl]
        exact hv
      · have hne := (chkPair_spec ((chkAny_at hc hi).2 j oj hj) hdj).2.2 (Ne.symm e)
        rw [hd] at hne
        have hne : d ≠ c := fun e' => hne (by rw [e'])
        rw [if_neg hne]
        rw [hbk j e] at hl
        exact hG _ _ _ _ hT (h.done j oj d hj hdj hl)
    · show (a.tmps.setIfInBounds c v).getD d undef = _
      rw [getD_set _ _ _ _ hsz]
      by_cases e : d = c
      · subst e
        have := hall i oi hi hd
        rw [hli] at this
        cases this
      · rw [if_neg e]
        refine h.rest d fun j oj hj hdj => ?_
        have h2 := hall j oj hj hdj
        by_cases e : j = i
        · subst e; rw [hli] at h2; cases h2
        · rw [hbk j e] at h2; exact h2
theorem all_listed (hc : chkAny ops a0.tmps.size = true) {listed : Array Bool} (hl : listed.size = ops.size) (hr : Region.ready .any ops listed = []) : ∀ i, i < ops.size → listed.getD i false = true := by
  intro i
  induction i using Nat.strongRecOn with
  | ind i ih =>
    intro hi
    cases hlb : listed.getD i false with
    | true => rfl
    | false =>
      exfalso
      have ho : ops[i]? = some ops[i] := Array.getElem?_eq_getElem hi
      have : i ∈ Region.ready .any ops listed := by
        refine mem_ready.2 ⟨?_, _, ho, fun e he hb => ?_⟩
        · have hs : i < listed.size := by rw [hl]; exact hi
          simp [hs] at hlb ⊢
          exact hlb
        · have := Array.all_eq_true_iff_forall_mem.1 (chkAny_at hc ho).1 e he
          rw [hb] at this
          simp at this
          exact ih e.on this (by omega)
      rw [hr] at this
      cases this
theorem any_go (hc : chkAny ops a0.tmps.size = true) (hG : ∀ d v w w', Turned (fun _ => False) w w' → G d v w → G d v w') (hs : StepsOk P G ops a0 w0 ops.toList)
    (hQ : ∀ a w, Turned (fun _ => False) w0 w → (∀ s, Looks G ops a0 a w s) → a.defers = a0.defers → a.tmps.size = a0.tmps.size → Q .normal a w) :
    ∀ (fuel : Nat) (listed : Array Bool) (a : Act) (w : World), listed.toList.count false ≤ fuel → Turned (fun _ => False) w0 w → InvA G ops a0 a listed w → wpAny P .any ops Q fuel listed a w := by
  intro fuel
  have hend : ∀ (listed : Array Bool) (a : Act) (w : World), Turned (fun _ => False) w0 w → InvA G ops a0 a listed w → Region.ready .any ops listed = [] → Q .normal a w := by
    intro listed a w hT hI hr
    have hall := all_listed hc hI.lsize hr
    refine hQ a w hT (fun s => ?_) hI.defers hI.size
    unfold Looks
    split
    · rename_i hm
      obtain ⟨oj, hoj, hd⟩ := List.mem_filterMap.1 hm
      obtain ⟨j, hj⟩ := List.getElem?_of_mem hoj
      rw [Array.getElem?_toList] at hj
      exact hI.done j oj s hj hd (hall j (Array.getElem?_eq_some_iff.1 hj).1)
    · rename_i hm
      refine hI.rest s fun j oj hj hd => absurd (List.mem_filterMap.2 ⟨oj, ?_, hd⟩) hm
      exact List.mem_of_getElem? (by rw [Array.getElem?_toList]; exact hj)
  induction fuel with
  | zero =>
    intro listed a w hf hT hI
    have hr : Region.ready .any ops listed = [] := by
      apply List.eq_nil_iff_forall_not_mem.2
      intro i hi
      obtain ⟨hfalse, o, ho, _⟩ := mem_ready.1 hi
      have hlt : i < listed.size := by rw [hI.lsize]; exact (Array.getElem?_eq_some_iff.1 ho).1
      simp [hlt] at hfalse
      have : false ∈ listed.toList := by rw [← hfalse]; exact Array.getElem_mem_toList hlt
      have := List.count_pos_iff.2 this
      omega
    exact ⟨hr, hend _ _ _ hT hI hr⟩
  | succ fuel ih =>
    intro listed a w hf hT hI
    refine ⟨hend _ _ _ hT hI, fun i hi => ?_⟩
    obtain ⟨hfalse, o, ho, _⟩ := mem_ready.1 hi
    have hlt : i < listed.size := by rw [hI.lsize]; exact (Array.getElem?_eq_some_iff.1 ho).1
    have hcnt : (listed.setIfInBounds i true).toList.count false ≤ fuel := by
      have h1 : listed.toList[i]? = some false := by
        simp [hlt] at hfalse
        rw [Array.getElem?_toList, Array.getElem?_eq_getElem hlt, hfalse]
      have := count_set h1
      rw [Array.toList_setIfInBounds]
      omega
    have hst := (hs.at (o := o) (List.mem_of_getElem? (i := i) (by rw [Array.getElem?_toList]; exact ho))) a w hT (hI.looks hc ho hi)
    unfold wpOp
    simp only [ho]
    split
    · rename_i hw
      refine .inl ?_
      exact Brings.upon (hst.1 hw) fun v w' hv => ih _ _ _ hcnt (hT.trans hv.1) (hI.step hc hG ho hv.1 hv.2)
    · rename_i hw
      exact ih _ _ _ hcnt hT (hI.step hc hG ho (Turned.refl _ w) (hst.2 (by simpa using hw)))
/-- THE LAW: a region that draws its order, one obligation an operation. -/
theorem wp_region_ssa {id : Nat} (hm : P.follows .mixedOrders = true) (hc : chkAny ops a0.tmps.size = true) (hG : ∀ d v w w', Turned (fun _ => False) w w' → G d v w → G d v w') (hs : StepsOk P G ops a0 w0 ops.toList)
    (hQ : ∀ a w, Turned (fun _ => False) w0 w → (∀ s, Looks G ops a0 a w s) → a.defers = a0.defers → a.tmps.size = a0.tmps.size → Q .normal a w) : (Code.region id ops true).wp P Q a0 w0 := by
  refine wp_region_any hm (any_go hc hG hs hQ _ _ _ _ ?_ ((Turned.refl _ w0).drew) ?_)
  · rw [Array.toList_replicate, List.count_replicate_self]
    exact Nat.le_refl _
  · refine ⟨rfl, rfl, by simp, fun j oj d hj hd hl => ?_, fun d _ => rfl⟩
    have hlt := (Array.getElem?_eq_some_iff.1 hj).1
    simp [hlt] at hl
end
end Go.Proofs.Ytoihjobdfjajfaa

/- The obligations of Any.lean, as they are typed. -/
namespace Go.Proofs.Ytoihjobdfjajfaa
open Go
def chkIns (ops : Array Oper) (o : Oper) (ins outs : List Tmp) : Bool :=
  (ins.all fun s => (o.looksAt ops).contains s && (ops.toList.filterMap (·.dst)).contains s) && (outs.all fun s => (o.looksAt ops).contains s && !(ops.toList.filterMap (·.dst)).contains s)
section
variable {P : Program} {G : Tmp → Value → World → Prop} {ops : Array Oper} {a0 : Act} {w0 : World} {o : Oper}
theorem chkIns_ins {ins outs : List Tmp} (h : chkIns ops o ins outs = true) {a : Act} {w : World} (hl : ∀ s ∈ o.looksAt ops, Looks G ops a0 a w s) :
    (∀ s ∈ ins, G s (a.tmps.getD s undef) w) ∧ (∀ s ∈ outs, a.tmps.getD s undef = a0.tmps.getD s undef) := by
  simp only [chkIns, Bool.and_eq_true, List.all_eq_true, List.contains_iff_mem, Bool.not_eq_true', ← Bool.not_eq_true] at h
  refine ⟨fun s hs => ?_, fun s hs => ?_⟩
  · have h1 := h.1 s hs
    have := hl s h1.1
    unfold Looks at this
    rwa [if_pos h1.2] at this
  · have h1 := h.2 s hs
    have := hl s h1.1
    unfold Looks at this
    rwa [if_neg h1.2] at this
theorem stepOk_free (ins outs : List Tmp) (hck : chkIns ops o ins outs = true) (hg : o.guard = none)
    (h : ∀ (a : Act) (w : World), Turned (fun _ => False) w0 w → (∀ s ∈ ins, G s (a.tmps.getD s undef) w) → (∀ s ∈ outs, a.tmps.getD s undef = a0.tmps.getD s undef) → Brings P (fun v w' => Turned (fun _ => False) w w' ∧ GD G o.dst v w') ((execOp a.eval o).run P w)) : StepOk P G ops a0 w0 o := by
  intro a w hT hl
  obtain ⟨h1, h2⟩ := chkIns_ins hck hl
  refine ⟨fun _ => h a w hT h1 h2, fun hw => ?_⟩
  unfold Region.wanted at hw
  rw [hg] at hw
  simp at hw
theorem stepOk_guard (ins outs : List Tmp) (hck : chkIns ops o ins outs = true) (g : Nat) (want : Bool) (s : Tmp) (hg : o.guard = some (g, want)) (hs : ((ops[g]?).bind (·.dst)) = some s) (hsin : s ∈ ins) (c b : Bool)
    (hb : ∀ v w, G s v w → v = bif c then .bool b else undef)
    (hT : (c && (b == want)) = true → ∀ (a : Act) (w : World), Turned (fun _ => False) w0 w → (∀ s ∈ ins, G s (a.tmps.getD s undef) w) → (∀ s ∈ outs, a.tmps.getD s undef = a0.tmps.getD s undef) → Brings P (fun v w' => Turned (fun _ => False) w w' ∧ GD G o.dst v w') ((execOp a.eval o).run P w))
    (hF : (c && (b == want)) = false → ∀ w, GD G o.dst undef w) : StepOk P G ops a0 w0 o := by
  intro a w hTw hl
  obtain ⟨h1, h2⟩ := chkIns_ins hck hl
  have hv := hb _ _ (h1 s hsin)
  have hy : Region.wanted o (yielded ops a.tmps) = (c && (b == want)) := by
    unfold Region.wanted
    rw [hg]
    simp only
    unfold yielded
    rw [hs]
    simp only [Option.bind_some]
    rw [Array.getD_eq_getD_getElem?] at hv
    cases hx : a.tmps[s]? with
    | none =>
      rw [hx] at hv
      cases c with
      | true => simp [undef] at hv
      | false => simp
    | some v =>
      rw [hx] at hv
      simp only [Option.getD_some] at hv
      subst hv
      cases c with
      | true => cases b <;> cases want <;> rfl
      | false => cases want <;> rfl
  rw [hy]
  exact ⟨fun h => hT h a w hTw h1 h2, fun h => hF h w⟩
theorem fold_getD (f : Tmp → Value) (l : List Tmp) : ∀ (t : Array Value) (s : Nat), s < t.size → (l.foldl (fun t d => t.setIfInBounds d (f d)) t).getD s undef = if s ∈ l then f s else t.getD s undef := by
  induction l with
  | nil => intro t s _; simp
  | cons d l ih =>
    intro t s hs
    rw [List.foldl_cons, ih _ _ (by simpa using hs)]
    by_cases hm : s ∈ l
    · rw [if_pos hm, if_pos (List.mem_cons_of_mem _ hm)]
    · rw [if_neg hm]
      by_cases e : s = d
      · subst e
        rw [getD_set _ _ _ _ hs, if_pos rfl, if_pos (List.mem_cons_self ..)]
      · rw [if_neg (by rw [List.mem_cons]; rintro (h | h); exact e h; exact hm h)]
        simp only [Array.getD_eq_getD_getElem?, Array.getElem?_setIfInBounds_ne (Ne.symm e)]
theorem fold_size (f : Tmp → Value) (l : List Tmp) : ∀ (t : Array Value), (l.foldl (fun t d => t.setIfInBounds d (f d)) t).size = t.size := by
  induction l with
  | nil => intro t; rfl
  | cons d l ih => intro t; rw [List.foldl_cons, ih]; simp
theorem getD_lt (t : Array Value) (i : Nat) (h : i < t.size) : t.getD i undef = t[i] := by simp [h]
/-- THE LAW, as it is typed: dl = the slots that the region writes; at the end, whatever stands there. -/
theorem wp_region_ssa' {Q : Exit → Act → World → Prop} {id : Nat} (dl : List Tmp) (hdl : ops.toList.filterMap (·.dst) = dl) (hm : P.follows .mixedOrders = true) (hc : chkAny ops a0.tmps.size = true) (hG : ∀ d v w w', Turned (fun _ => False) w w' → G d v w → G d v w') (hs : StepsOk P G ops a0 w0 ops.toList)
    (hQ : ∀ (vs : Tmp → Value) w, Turned (fun _ => False) w0 w → (∀ s ∈ dl, G s (vs s) w) → Q .normal ⟨dl.foldl (fun t d => t.setIfInBounds d (vs d)) a0.tmps, a0.defers⟩ w) : (Code.region id ops true).wp P Q a0 w0 := by
  refine wp_region_ssa hm hc hG hs fun a w hT hL hd hsz => ?_
  have := hQ (fun d => a.tmps.getD d undef) w hT (fun s hs => by
    have := hL s
    unfold Looks at this
    rw [hdl, if_pos hs] at this
    exact this)
  have e : a = ⟨dl.foldl (fun t d => t.setIfInBounds d (a.tmps.getD d undef)) a0.tmps, a0.defers⟩ := by
    cases a with | mk tmps defers =>
    simp only at hd hsz this ⊢
    subst hd
    congr 1
    apply Array.ext
    · rw [fold_size]; exact hsz
    · intro i h1 h2
      have h3 : i < a0.tmps.size := by rw [← hsz]; exact h1
      have hf := fold_getD (fun d => tmps.getD d undef) dl a0.tmps i h3
      have hl := hL i
      unfold Looks at hl
      rw [hdl] at hl
      have e1 := getD_lt tmps i h1
      have e2 := getD_lt _ i h2
      rw [← e1, ← e2, hf]
      by_cases hm : i ∈ dl
      · rw [if_pos hm]
      · rw [if_neg hm] at hl ⊢
        exact hl
  rw [e]
  exact this
end
end Go.Proofs.Ytoihjobdfjajfaa

/- A region that draws its order and WRITES: the operations that turn the state come up in ONE order (each waits for the one ahead); the others anywhere between. One obligation an operation. -/
namespace Go.Proofs.Ytoihjobdfjajfaa
open Go

/-- The place of an operation among those that turn the state. -/
def posOf : List Nat → Nat → Option Nat
  | [], _ => none
  | s :: l, i => if s == i then some 0 else (posOf l i).map (· + 1)
theorem posOf_some {l : List Nat} {i k : Nat} (h : posOf l i = some k) : l[k]? = some i := by
  induction l generalizing k with
  | nil => cases h
  | cons s l ih =>
    unfold posOf at h
    split at h
    · rename_i e
      injection h with h
      subst h
      simp at e
      simp [e]
    · cases hp : posOf l i with
      | none => rw [hp] at h; cases h
      | some q =>
        rw [hp] at h
        injection h with h
        subst h
        rw [List.getElem?_cons_succ]
        exact ih hp
theorem posOf_none {l : List Nat} {i k : Nat} (h : posOf l i = none) : l[k]? ≠ some i := by
  induction l generalizing k with
  | nil => simp
  | cons s l ih =>
    unfold posOf at h
    split at h
    · cases h
    · rename_i e
      have h2 : posOf l i = none := by
        cases hp : posOf l i with
        | none => rfl
        | some q => rw [hp] at h; cases h
      cases k with
      | zero => simp at e; simpa using e
      | succ k => rw [List.getElem?_cons_succ]; exact ih h2
def StepG (P : Program) (G : Tmp → Value → World → Prop) (ops : Array Oper) (a0 : Act) (Pre : World → Prop) (Post : Value → World → World → Prop) (o : Oper) : Prop :=
  ∀ a w, Pre w → (∀ s ∈ o.looksAt ops, Looks G ops a0 a w s) →
    (Region.wanted o (yielded ops a.tmps) = true → Brings P (fun v w' => Post v w w') ((execOp a.eval o).run P w)) ∧
    (Region.wanted o (yielded ops a.tmps) = false → Post undef w w)
/-- What an operation that turns nothing owes. -/
def Idle (G : List Value → Tmp → Value → World → Prop) (R : List Value → World → Prop) (Step : World → World → Prop) (hs : List Value) (d : Option Tmp) (v : Value) (w w' : World) : Prop := R hs w' ∧ Step w w' ∧ GD (G hs) d v w'
/-- What an operation that turns the state owes. -/
def Turns (G : List Value → Tmp → Value → World → Prop) (R : List Value → World → Prop) (Step : World → World → Prop) (hs : List Value) (d : Option Tmp) (v : Value) (w w' : World) : Prop := R (hs ++ [v]) w' ∧ Step w w' ∧ GD (G (hs ++ [v])) d v w'
/-- An operation waits for another, be it through others. -/
def waits (ops : Array Oper) : Nat → Nat → Nat → Bool
  | 0, _, _ => false
  | n + 1, j, i => match ops[j]? with
    | none => false
    | some o => o.after.any fun e => Region.binds .any e && (e.on == i || waits ops n e.on i)
theorem waits_listed {ops : Array Oper} {listed : Array Bool} (h : ∀ j o, ops[j]? = some o → listed.getD j false = true → ∀ e ∈ o.after, Region.binds .any e = true → listed.getD e.on false = true) (n : Nat) : ∀ j i, waits ops n j i = true → listed.getD j false = true → listed.getD i false = true := by
  induction n with
  | zero => intro j i hw; cases hw
  | succ n ih =>
    intro j i hw hj
    unfold waits at hw
    cases ho : ops[j]? with
    | none => rw [ho] at hw; cases hw
    | some o =>
      rw [ho] at hw
      obtain ⟨e, he, hb⟩ := (Array.any_eq_true').1 hw
      simp only [Bool.and_eq_true, Bool.or_eq_true, beq_iff_eq] at hb
      have h1 := h j o ho hj e he hb.1
      rcases hb.2 with e' | e'
      · rw [← e']; exact h1
      · exact ih _ _ e' h1
def StepAt (P : Program) (G : List Value → Tmp → Value → World → Prop) (ops : Array Oper) (a0 : Act) (st : List Nat) (R : List Value → World → Prop) (Step : World → World → Prop) (i : Nat) (o : Oper) : Prop :=
  match posOf st i with
  | none => ∀ hs, hs.length ≤ st.length → (∀ k j n, st[k]? = some j → waits ops n j i = true → hs.length ≤ k) → StepG P (G hs) ops a0 (R hs) (Idle G R Step hs o.dst) o
  | some k => ∀ hs, hs.length = k → StepG P (G hs) ops a0 (R hs) (Turns G R Step hs o.dst) o
def StepsAt (P : Program) (G : List Value → Tmp → Value → World → Prop) (ops : Array Oper) (a0 : Act) (st : List Nat) (R : List Value → World → Prop) (Step : World → World → Prop) : Nat → List Oper → Prop
  | _, [] => True
  | i, o :: l => StepAt P G ops a0 st R Step i o ∧ StepsAt P G ops a0 st R Step (i + 1) l
theorem StepsAt.at {P : Program} {G : List Value → Tmp → Value → World → Prop} {ops : Array Oper} {a0 : Act} {st : List Nat} {R : List Value → World → Prop} {Step : World → World → Prop} {l : List Oper} {b : Nat} (h : StepsAt P G ops a0 st R Step b l) {j : Nat} {o : Oper} (ho : l[j]? = some o) : StepAt P G ops a0 st R Step (b + j) o := by
  induction l generalizing b j with
  | nil => simp at ho
  | cons x l ih =>
    cases j with
    | zero => simp at ho; subst ho; exact h.1
    | succ j =>
      simp at ho
      have := ih h.2 ho
      rwa [show b + 1 + j = b + (j + 1) from by omega] at this
def chkSt (ops : Array Oper) (st : List Nat) : Bool :=
  st.all (fun i => decide (i < ops.size)) && (List.range st.length).all fun k => match st[k]?, st[k + 1]? with
    | some i, some j => decide (i < j) && ((ops[j]?).map fun o => o.after.any fun e => Region.binds .any e && e.on == i).getD false
    | _, _ => true
theorem chkSt_lt {ops : Array Oper} {st : List Nat} (h : chkSt ops st = true) {k i : Nat} (hi : st[k]? = some i) : i < ops.size := by
  simp only [chkSt, Bool.and_eq_true, List.all_eq_true] at h
  simpa using h.1 i (List.mem_of_getElem? hi)
theorem chkSt_next {ops : Array Oper} {st : List Nat} (h : chkSt ops st = true) {k i j : Nat} (hi : st[k]? = some i) (hj : st[k + 1]? = some j) : i < j ∧ ∀ o, ops[j]? = some o → ∃ e ∈ o.after, Region.binds .any e = true ∧ e.on = i := by
  simp only [chkSt, Bool.and_eq_true, List.all_eq_true] at h
  have := h.2 k (List.mem_range.2 (List.getElem?_eq_some_iff.1 hi).1)
  rw [hi, hj] at this
  simp only [Bool.and_eq_true, decide_eq_true_eq] at this
  refine ⟨this.1, fun o ho => ?_⟩
  have h2 := this.2
  rw [ho] at h2
  simp only [Option.map_some, Option.getD_some] at h2
  obtain ⟨e, he, hb⟩ := (Array.any_eq_true').1 h2
  simp only [Bool.and_eq_true, beq_iff_eq] at hb
  exact ⟨e, he, hb⟩
theorem chkSt_mono {ops : Array Oper} {st : List Nat} (h : chkSt ops st = true) (d : Nat) : ∀ {k i j : Nat}, st[k]? = some i → st[k + d + 1]? = some j → i < j := by
  induction d with
  | zero => intro k i j hi hj; exact (chkSt_next h hi hj).1
  | succ d ih =>
    intro k i j hi hj
    have hlt : k + d + 1 < st.length := by have := (List.getElem?_eq_some_iff.1 hj).1; omega
    have hm : st[k + d + 1]? = some st[k + d + 1] := List.getElem?_eq_getElem hlt
    have h1 := ih hi hm
    have h2 := (chkSt_next h hm (by rw [show k + d + 1 + 1 = k + (d + 1) + 1 from by omega]; exact hj)).1
    omega
theorem chkSt_inj {ops : Array Oper} {st : List Nat} (h : chkSt ops st = true) {k k' i : Nat} (hi : st[k]? = some i) (hj : st[k']? = some i) : k = k' := by
  rcases Nat.lt_trichotomy k k' with hl | hl | hl
  · have := chkSt_mono h (k' - k - 1) hi (by rw [show k + (k' - k - 1) + 1 = k' from by omega]; exact hj)
    omega
  · exact hl
  · have := chkSt_mono h (k - k' - 1) hj (by rw [show k' + (k - k' - 1) + 1 = k from by omega]; exact hi)
    omega
section
variable {P : Program} {G : List Value → Tmp → Value → World → Prop} {ops : Array Oper} {a0 : Act} {w0 : World} {Q : Exit → Act → World → Prop} {st : List Nat} {R : List Value → World → Prop} {Step : World → World → Prop}
theorem InvA.stepG {G G' : Tmp → Value → World → Prop} {a : Act} {listed : Array Bool} {w w' : World} (h : InvA G ops a0 a listed w) (hc : chkAny ops a0.tmps.size = true) (hG : ∀ d v, G d v w → G' d v w') {i : Nat} {oi : Oper} (hi : ops[i]? = some oi) {v : Value} (hv : GD G' oi.dst v w') : InvA G' ops a0 (a.put oi.dst v) (listed.setIfInBounds i true) w' := by
  have hlt := (Array.getElem?_eq_some_iff.1 hi).1
  have hli : (listed.setIfInBounds i true).getD i false = true := by
    have : i < listed.size := by rw [h.lsize]; exact hlt
    simp [this]
  have hbk : ∀ j, j ≠ i → (listed.setIfInBounds i true).getD j false = listed.getD j false := fun j hj => getD_set_ne false (Ne.symm hj)
  cases hd : oi.dst with
  | none =>
    refine ⟨h.defers, h.size, by simpa using h.lsize, fun j oj d hj hdj hl => ?_, fun d hall => h.rest d fun j oj hj hdj => ?_⟩
    · by_cases e : j = i
      · subst e
        rw [hi] at hj
        injection hj with hj
        subst hj
        rw [hd] at hdj
        cases hdj
      · rw [hbk j e] at hl
        exact hG _ _ (h.done j oj d hj hdj hl)
    · have h2 := hall j oj hj hdj
      by_cases e : j = i
      · subst e; rw [hli] at h2; cases h2
      · rw [hbk j e] at h2; exact h2
  | some c =>
    have hcN := (chkPair_spec ((chkAny_at hc hi).2 i oi hi) hd).1
    rw [hd] at hv
    have hsz : c < a.tmps.size := by rw [h.size]; exact hcN
    refine ⟨h.defers, by simpa [Act.put] using h.size, by simpa using h.lsize, fun j oj d hj hdj hl => ?_, fun d hall => ?_⟩
    · show G' d ((a.tmps.setIfInBounds c v).getD d undef) w'
      rw [getD_set _ _ _ _ hsz]
      by_cases e : j = i
      · subst e
        rw [hi] at hj
        injection hj with hj
        subst hj
        rw [hd] at hdj
        injection hdj with hdj
        subst hdj
        rw [if_pos rfl]
        exact hv
      · have hne := (chkPair_spec ((chkAny_at hc hi).2 j oj hj) hdj).2.2 (Ne.symm e)
        rw [hd] at hne
        have hne : d ≠ c := fun e' => hne (by rw [e'])
        rw [if_neg hne]
        rw [hbk j e] at hl
        exact hG _ _ (h.done j oj d hj hdj hl)
    · show (a.tmps.setIfInBounds c v).getD d undef = _
      rw [getD_set _ _ _ _ hsz]
      by_cases e : d = c
      · subst e
        have := hall i oi hi hd
        rw [hli] at this
        cases this
      · rw [if_neg e]
        refine h.rest d fun j oj hj hdj => ?_
        have h2 := hall j oj hj hdj
        by_cases e : j = i
        · subst e; rw [hli] at h2; cases h2
        · rw [hbk j e] at h2; exact h2
/-- How far the state has come. -/
structure InvS (ops : Array Oper) (st : List Nat) (R : List Value → World → Prop) (listed : Array Bool) (hs : List Value) (m : Nat) (w : World) : Prop where
  le : m ≤ st.length
  len : hs.length = m
  state : R hs w
  done : ∀ k i, st[k]? = some i → listed.getD i false = decide (k < m)
  shut : ∀ j o, ops[j]? = some o → listed.getD j false = true → ∀ e ∈ o.after, Region.binds .any e = true → listed.getD e.on false = true
theorem shut_set {listed : Array Bool} {i : Nat} (h : ∀ j o, ops[j]? = some o → listed.getD j false = true → ∀ e ∈ o.after, Region.binds .any e = true → listed.getD e.on false = true) (hl : listed.size = ops.size) (hr : i ∈ Region.ready .any ops listed) :
    ∀ j o, ops[j]? = some o → (listed.setIfInBounds i true).getD j false = true → ∀ e ∈ o.after, Region.binds .any e = true → (listed.setIfInBounds i true).getD e.on false = true := by
  obtain ⟨hf, oi, hoi, hall⟩ := mem_ready.1 hr
  have hlt : i < listed.size := by rw [hl]; exact (Array.getElem?_eq_some_iff.1 hoi).1
  have hmono : ∀ k, listed.getD k false = true → (listed.setIfInBounds i true).getD k false = true := by
    intro k hk
    by_cases e : k = i
    · subst e; simp [hlt]
    · rw [getD_set_ne false (Ne.symm e)]; exact hk
  intro j o ho hj e he hb
  by_cases e' : j = i
  · subst e'
    rw [hoi] at ho
    injection ho with ho
    subst ho
    exact hmono _ (hall e he hb)
  · rw [getD_set_ne false (Ne.symm e')] at hj
    exact hmono _ (h j o ho hj e he hb)
theorem InvS.other {listed : Array Bool} {hs : List Value} {m : Nat} {w w' : World} (h : InvS ops st R listed hs m w) {i : Nat} (hp : posOf st i = none) (hl : listed.size = ops.size) (hr : i ∈ Region.ready .any ops listed) (hR : R hs w') : InvS ops st R (listed.setIfInBounds i true) hs m w' := by
  refine ⟨h.le, h.len, hR, fun k j hj => ?_, shut_set h.shut hl hr⟩
  have hne : j ≠ i := fun e => posOf_none hp (e ▸ hj)
  rw [getD_set_ne false (Ne.symm hne)]
  exact h.done k j hj
theorem InvS.here {listed : Array Bool} {hs : List Value} {m : Nat} {w : World} (h : InvS ops st R listed hs m w) (hst : chkSt ops st = true) {i k : Nat} (hp : posOf st i = some k) (hr : i ∈ Region.ready .any ops listed) : k = m := by
  obtain ⟨hf, o, ho, hall⟩ := mem_ready.1 hr
  have hk := posOf_some hp
  have h1 := h.done k i hk
  have hmk : m ≤ k := by
    have : listed.getD i false = false := by
      have hf' := hf
      simp only [Array.getD_eq_getD_getElem?] at hf' ⊢
      cases h : listed[i]? with
      | none => rfl
      | some b => rw [h] at hf'; simpa using hf'
    rw [this] at h1
    have := of_decide_eq_false h1.symm
    omega
  by_cases e : k = m
  · exact e
  · exfalso
    have hk1 : st[k - 1]? = some (st[k - 1]'(by have := (List.getElem?_eq_some_iff.1 hk).1; omega)) := List.getElem?_eq_getElem _
    obtain ⟨_, hedge⟩ := chkSt_next hst hk1 (by rw [show k - 1 + 1 = k from by omega]; exact hk)
    obtain ⟨e', he', hb, hon⟩ := hedge o ho
    have h2 := h.done _ _ hk1
    rw [← hon, hall e' he' hb] at h2
    have := of_decide_eq_true h2.symm
    omega
theorem InvS.next {listed : Array Bool} {hs : List Value} {m : Nat} {w w' : World} (h : InvS ops st R listed hs m w) (hst : chkSt ops st = true) (hl : listed.size = ops.size) {i : Nat} (hr : i ∈ Region.ready .any ops listed) (hp : posOf st i = some m) {v : Value} (hR : R (hs ++ [v]) w') : InvS ops st R (listed.setIfInBounds i true) (hs ++ [v]) (m + 1) w' := by
  have hk := posOf_some hp
  have hlt := (List.getElem?_eq_some_iff.1 hk).1
  refine ⟨hlt, by rw [List.length_append, h.len]; rfl, hR, fun k j hj => ?_, shut_set h.shut hl hr⟩
  by_cases e : j = i
  · subst e
    have := chkSt_inj hst hj hk
    subst this
    have hb : j < listed.size := by rw [hl]; exact chkSt_lt hst hk
    simp [hb]
  · rw [getD_set_ne false (Ne.symm e), h.done k j hj, decide_eq_decide]
    have hne : k ≠ m := fun e' => by subst e'; rw [hk] at hj; injection hj with hj; exact e hj.symm
    omega
theorem st_go (hc : chkAny ops a0.tmps.size = true) (hst : chkSt ops st = true) (hG : ∀ hs d v w w', Step w w' → G hs d v w → G hs d v w') (hG2 : ∀ hs x d v w, G hs d v w → G (hs ++ [x]) d v w) (hs : StepsAt P G ops a0 st R Step 0 ops.toList)
    (hQ : ∀ hs a w, hs.length = st.length → R hs w → (∀ s, Looks (G hs) ops a0 a w s) → a.defers = a0.defers → a.tmps.size = a0.tmps.size → Q .normal a w) :
    ∀ (fuel : Nat) (listed : Array Bool) (a : Act) (w : World) (hs : List Value) (m : Nat), listed.toList.count false ≤ fuel → InvS ops st R listed hs m w → InvA (G hs) ops a0 a listed w → wpAny P .any ops Q fuel listed a w := by
  intro fuel
  have hend : ∀ (listed : Array Bool) (a : Act) (w : World) (hs : List Value) (m : Nat), InvS ops st R listed hs m w → InvA (G hs) ops a0 a listed w → Region.ready .any ops listed = [] → Q .normal a w := by
    intro listed a w hs m hT hI hr
    have hall := all_listed hc hI.lsize hr
    have hm : m = st.length := by
      rcases Nat.lt_or_ge m st.length with hl | hl
      · have hk : st[m]? = some st[m] := List.getElem?_eq_getElem hl
        have h1 := hT.done m _ hk
        rw [hall _ (chkSt_lt hst hk)] at h1
        have := of_decide_eq_true h1.symm
        omega
      · have := hT.le; omega
    subst hm
    refine hQ hs a w hT.len hT.state (fun s => ?_) hI.defers hI.size
    unfold Looks
    split
    · rename_i hm
      obtain ⟨oj, hoj, hd⟩ := List.mem_filterMap.1 hm
      obtain ⟨j, hj⟩ := List.getElem?_of_mem hoj
      rw [Array.getElem?_toList] at hj
      exact hI.done j oj s hj hd (hall j (Array.getElem?_eq_some_iff.1 hj).1)
    · rename_i hm
      refine hI.rest s fun j oj hj hd => absurd (List.mem_filterMap.2 ⟨oj, ?_, hd⟩) hm
      exact List.mem_of_getElem? (by rw [Array.getElem?_toList]; exact hj)
  induction fuel with
  | zero =>
    intro listed a w hs' m hf hT hI
    have hr : Region.ready .any ops listed = [] := by
      apply List.eq_nil_iff_forall_not_mem.2
      intro i hi
      obtain ⟨hfalse, o, ho, _⟩ := mem_ready.1 hi
      have hlt : i < listed.size := by rw [hI.lsize]; exact (Array.getElem?_eq_some_iff.1 ho).1
      simp [hlt] at hfalse
      have : false ∈ listed.toList := by rw [← hfalse]; exact Array.getElem_mem_toList hlt
      have := List.count_pos_iff.2 this
      omega
    exact ⟨hr, hend _ _ _ _ _ hT hI hr⟩
  | succ fuel ih =>
    intro listed a w hs' m hf hT hI
    refine ⟨hend _ _ _ _ _ hT hI, fun i hi => ?_⟩
    obtain ⟨hfalse, o, ho, _⟩ := mem_ready.1 hi
    have hlt : i < listed.size := by rw [hI.lsize]; exact (Array.getElem?_eq_some_iff.1 ho).1
    have hcnt : (listed.setIfInBounds i true).toList.count false ≤ fuel := by
      have h1 : listed.toList[i]? = some false := by
        simp [hlt] at hfalse
        rw [Array.getElem?_toList, Array.getElem?_eq_getElem hlt, hfalse]
      have := count_set h1
      rw [Array.toList_setIfInBounds]
      omega
    have hst1 := hs.at (j := i) (o := o) (by rw [Array.getElem?_toList]; exact ho)
    rw [Nat.zero_add] at hst1
    unfold wpOp
    simp only [ho]
    unfold StepAt at hst1
    cases hp : posOf st i with
    | none =>
      rw [hp] at hst1
      have hst2 := hst1 hs' (by rw [hT.len]; exact hT.le) (fun k j n hk hedge => by
        rw [hT.len]
        have h1 := hT.done k j hk
        rcases Nat.lt_or_ge k m with hl | hl
        · exfalso
          have h2 := waits_listed hT.shut n j i hedge (by rw [h1]; exact decide_eq_true hl)
          have h3 : listed.getD i true = false := by simpa using hfalse
          simp only [Array.getD_eq_getD_getElem?] at h2 h3
          cases hx : listed[i]? with
          | none => rw [hx] at h2; simp at h2
          | some b => rw [hx] at h2 h3; simp at h2 h3; rw [h2] at h3; cases h3
        · exact hl) a w hT.state (hI.looks hc ho hi)
      split
      · rename_i hw
        refine .inl ?_
        exact Brings.upon (hst2.1 hw) fun v w' hv => ih _ _ _ hs' m hcnt (hT.other hp hI.lsize hi hv.1) (hI.stepG hc (fun d v => hG hs' d v _ _ hv.2.1) ho hv.2.2)
      · rename_i hw
        have := hst2.2 (by simpa using hw)
        exact ih _ _ _ hs' m hcnt (hT.other hp hI.lsize hi this.1) (hI.stepG hc (fun d v h => h) ho this.2.2)
    | some k =>
      rw [hp] at hst1
      have hkm := hT.here hst hp hi
      subst hkm
      have hst2 := hst1 hs' hT.len a w hT.state (hI.looks hc ho hi)
      split
      · rename_i hw
        refine .inl ?_
        exact Brings.upon (hst2.1 hw) fun v w' hv => ih _ _ _ (hs' ++ [v]) (k + 1) hcnt (hT.next hst hI.lsize hi hp hv.1) (hI.stepG hc (fun d u h => hG2 _ _ _ _ _ (hG hs' d u _ _ hv.2.1 h)) ho hv.2.2)
      · rename_i hw
        have := hst2.2 (by simpa using hw)
        exact ih _ _ _ (hs' ++ [undef]) (k + 1) hcnt (hT.next hst hI.lsize hi hp this.1) (hI.stepG hc (fun d u h => hG2 _ _ _ _ _ h) ho this.2.2)
/-- THE LAW: dl = the slots that the region writes, st = the operations that turn the state, R = the state when so many of them have been. -/
theorem wp_region_st {id : Nat} (dl : List Tmp) (st : List Nat) (R : List Value → World → Prop) (Step : World → World → Prop) (hdl : ops.toList.filterMap (·.dst) = dl) (hm : P.follows .mixedOrders = true) (hc : chkAny ops a0.tmps.size = true) (hst : chkSt ops st = true) (hR : ∀ w, Turned (fun _ => False) w0 w → R [] w) (hG : ∀ hs d v w w', Step w w' → G hs d v w → G hs d v w') (hG2 : ∀ hs x d v w, G hs d v w → G (hs ++ [x]) d v w) (hs : StepsAt P G ops a0 st R Step 0 ops.toList)
    (hQ : ∀ (hs : List Value) (vs : Tmp → Value) w, hs.length = st.length → R hs w → (∀ s ∈ dl, G hs s (vs s) w) → Q .normal ⟨dl.foldl (fun t d => t.setIfInBounds d (vs d)) a0.tmps, a0.defers⟩ w) : (Code.region id ops true).wp P Q a0 w0 := by
  refine wp_region_any hm (st_go hc hst hG hG2 hs ?_ _ _ _ _ [] 0 ?_ ⟨Nat.zero_le _, rfl, hR _ ((Turned.refl _ w0).drew), fun k i hi => ?_, fun j o ho hj => ?_⟩ ?_)
  · intro hs a w hlen hR hL hd hsz
    have := hQ hs (fun d => a.tmps.getD d undef) w hlen hR (fun s hs => by
      have := hL s
      unfold Looks at this
      rw [hdl, if_pos hs] at this
      exact this)
    have e : a = ⟨dl.foldl (fun t d => t.setIfInBounds d (a.tmps.getD d undef)) a0.tmps, a0.defers⟩ := by
      cases a with | mk tmps defers =>
      simp only at hd hsz this ⊢
      subst hd
      congr 1
      apply Array.ext
      · rw [fold_size]; exact hsz
      · intro i h1 h2
        have h3 : i < a0.tmps.size := by rw [← hsz]; exact h1
        have hf := fold_getD (fun d => tmps.getD d undef) dl a0.tmps i h3
        have hl := hL i
        unfold Looks at hl
        rw [hdl] at hl
        have e1 := getD_lt tmps i h1
        have e2 := getD_lt _ i h2
        rw [← e1, ← e2, hf]
        by_cases hm : i ∈ dl
        · rw [if_pos hm]
        · rw [if_neg hm] at hl ⊢
          exact hl
    rw [e]
    exact this
  · rw [Array.toList_replicate, List.count_replicate_self]
    exact Nat.le_refl _
  · have hlt := chkSt_lt hst hi
    simp [hlt]
  · have hlt := (Array.getElem?_eq_some_iff.1 ho).1
    simp [hlt] at hj
  · refine ⟨rfl, rfl, by simp, fun j oj d hj hd hl => ?_, fun d _ => rfl⟩
    have hlt := (Array.getElem?_eq_some_iff.1 hj).1
    simp [hlt] at hl
/-- What an obligation asks, as it is typed: nothing guards it. -/
theorem stepG_free {G : Tmp → Value → World → Prop} {Pre : World → Prop} {Post : Value → World → World → Prop} {o : Oper} (ins outs : List Tmp) (hck : chkIns ops o ins outs = true) (hg : o.guard = none)
    (h : ∀ (a : Act) (w : World), Pre w → (∀ s ∈ ins, G s (a.tmps.getD s undef) w) → (∀ s ∈ outs, a.tmps.getD s undef = a0.tmps.getD s undef) → Brings P (fun v w' => Post v w w') ((execOp a.eval o).run P w)) : StepG P G ops a0 Pre Post o := by
  intro a w hT hl
  obtain ⟨h1, h2⟩ := chkIns_ins hck hl
  refine ⟨fun _ => h a w hT h1 h2, fun hw => ?_⟩
  unfold Region.wanted at hw
  rw [hg] at hw
  simp at hw
/-- A guarded one. -/
theorem stepG_guard {G : Tmp → Value → World → Prop} {Pre : World → Prop} {Post : Value → World → World → Prop} {o : Oper} (ins outs : List Tmp) (hck : chkIns ops o ins outs = true) (g : Nat) (want : Bool) (s : Tmp) (hg : o.guard = some (g, want)) (hs : ((ops[g]?).bind (·.dst)) = some s) (hsin : s ∈ ins) (c b : Bool)
    (hb : ∀ v w, G s v w → v = bif c then .bool b else undef)
    (hT : (c && (b == want)) = true → ∀ (a : Act) (w : World), Pre w → (∀ s ∈ ins, G s (a.tmps.getD s undef) w) → (∀ s ∈ outs, a.tmps.getD s undef = a0.tmps.getD s undef) → Brings P (fun v w' => Post v w w') ((execOp a.eval o).run P w))
    (hF : (c && (b == want)) = false → ∀ w, Pre w → Post undef w w) : StepG P G ops a0 Pre Post o := by
  intro a w hTw hl
  obtain ⟨h1, h2⟩ := chkIns_ins hck hl
  have hv := hb _ _ (h1 s hsin)
  have hy : Region.wanted o (yielded ops a.tmps) = (c && (b == want)) := by
    unfold Region.wanted
    rw [hg]
    simp only
    unfold yielded
    rw [hs]
    simp only [Option.bind_some]
    rw [Array.getD_eq_getD_getElem?] at hv
    cases hx : a.tmps[s]? with
    | none =>
      rw [hx] at hv
      cases c with
      | true => simp [undef] at hv
      | false => simp
    | some v =>
      rw [hx] at hv
      simp only [Option.getD_some] at hv
      subst hv
      cases c with
      | true => cases b <;> cases want <;> rfl
      | false => cases want <;> rfl
  rw [hy]
  exact ⟨fun h => hT h a w hTw h1 h2, fun h => hF h w hTw⟩
end
end Go.Proofs.Ytoihjobdfjajfaa

/- The law of Any3, as it is typed: what the operations that turn the state have brought is a list of values; of all other slots one says what they hold. -/
namespace Go.Proofs.Ytoihjobdfjajfaa
open Go
/-- What is known of a slot: of those that the list tells, what it tells; of the others GL. -/
def GH (hist : List Tmp) (GL : Tmp → Value → Prop) (hs : List Value) (d : Tmp) (v : Value) : Prop :=
  match posOf hist d with
  | some k => hs[k]? = some v
  | none => GL d v
def GDL (GL : Tmp → Value → Prop) : Option Tmp → Value → Prop
  | none, _ => True
  | some d, v => GL d v
theorem Brings.mono {P : Program} {F F' : Value → World → Prop} {r : Result Next} (h : Brings P F r) (hF : ∀ v w, F v w → F' v w) : Brings P F' r := by
  cases r with
  | ok n w' =>
    cases n <;> simp only [Brings] at h ⊢ <;> first
      | exact hF _ _ h
      | exact Calls.mono h (fun e w'' he => by obtain ⟨v, rfl, hv⟩ := he; exact ⟨v, rfl, hF _ _ hv⟩)
      | exact Rows.mono h (fun _ _ hv => hF _ _ hv)
      | exact h.elim
  | halt x w' => exact (by cases x <;> exact h.elim)
def StepH (P : Program) (hist : List Tmp) (GL : Tmp → Value → Prop) (ops : Array Oper) (a0 : Act) (st bd : List Nat) (R : List Value → World → Prop) (i : Nat) (o : Oper) : Prop :=
  match posOf st i with
  | none => ∀ hs, hs.length ≤ bd.getD i st.length → StepG P (fun d v _ => GH hist GL hs d v) ops a0 (R hs) (fun v w w' => Turned (fun _ => False) w w' ∧ GDL GL o.dst v) o
  | some k => ∀ hs, hs.length = k → StepG P (fun d v _ => GH hist GL hs d v) ops a0 (R hs) (fun v _ w' => R (hs ++ [v]) w') o
def StepsH (P : Program) (hist : List Tmp) (GL : Tmp → Value → Prop) (ops : Array Oper) (a0 : Act) (st bd : List Nat) (R : List Value → World → Prop) : Nat → List Oper → Prop
  | _, [] => True
  | i, o :: l => StepH P hist GL ops a0 st bd R i o ∧ StepsH P hist GL ops a0 st bd R (i + 1) l
def chkHist (ops : Array Oper) (st : List Nat) (hist : List Tmp) : Bool :=
  decide (hist.length = st.length) && (List.range ops.size).all fun i => match ops[i]? with
    | none => true
    | some o => match o.dst with
      | none => true
      | some d => match posOf st i with
        | some k => posOf hist d == some k
        | none => posOf hist d == none
theorem chkHist_at {ops : Array Oper} {st : List Nat} {hist : List Tmp} (h : chkHist ops st hist = true) {i : Nat} {o : Oper} (ho : ops[i]? = some o) {d : Tmp} (hd : o.dst = some d) : posOf hist d = posOf st i := by
  simp only [chkHist, Bool.and_eq_true, List.all_eq_true] at h
  have := h.2 i (List.mem_range.2 (Array.getElem?_eq_some_iff.1 ho).1)
  rw [ho] at this
  simp only [hd] at this
  cases hp : posOf st i with
  | none => rw [hp] at this; simpa using this
  | some k => rw [hp] at this; simpa using this
/-- How many of the state's turns can have been, when an operation comes up: no more than stand ahead of the first that waits for it. -/
def chkBd (ops : Array Oper) (st bd : List Nat) : Bool :=
  (List.range ops.size).all fun i => bd.getD i st.length == st.length || match st[bd.getD i st.length]? with
    | none => false
    | some j => waits ops ops.size j i
theorem chkBd_at {ops : Array Oper} {st bd : List Nat} (h : chkBd ops st bd = true) {i : Nat} {o : Oper} (ho : ops[i]? = some o) {hs : List Value} (h1 : hs.length ≤ st.length)
    (h2 : ∀ k j n, st[k]? = some j → waits ops n j i = true → hs.length ≤ k) : hs.length ≤ bd.getD i st.length := by
  have := List.all_eq_true.1 h i (List.mem_range.2 (Array.getElem?_eq_some_iff.1 ho).1)
  rw [Bool.or_eq_true] at this
  rcases this with this | this
  · rw [beq_iff_eq] at this; omega
  · cases hj : st[bd.getD i st.length]? with
    | none => rw [hj] at this; cases this
    | some j =>
      rw [hj] at this
      exact h2 _ j _ hj this
section
variable {P : Program} {hist : List Tmp} {GL : Tmp → Value → Prop} {ops : Array Oper} {a0 : Act} {w0 : World} {Q : Exit → Act → World → Prop} {st bd : List Nat} {R : List Value → World → Prop}
theorem StepsH.up (hh : chkHist ops st hist = true) (hb0 : chkBd ops st bd = true) (hRt : ∀ hs w w', R hs w → Turned (fun _ => False) w w' → R hs w') : ∀ (l : List Oper) (b : Nat), (∀ j o, l[j]? = some o → ops[b + j]? = some o) → StepsH P hist GL ops a0 st bd R b l → StepsAt P (fun hs d v _ => GH hist GL hs d v) ops a0 st R (fun _ _ => True) b l := by
  intro l
  induction l with
  | nil => intro b _ _; trivial
  | cons o l ih =>
    intro b hb hs
    refine ⟨?_, ih (b + 1) (fun j x hx => by have := hb (j + 1) x (by simpa using hx); rwa [show b + (j + 1) = b + 1 + j from by omega] at this) hs.2⟩
    have ho : ops[b]? = some o := hb 0 o (by simp)
    have h1 := hs.1
    unfold StepH at h1
    unfold StepAt
    cases hp : posOf st b with
    | none =>
      rw [hp] at h1
      intro hl hl1 hl2 a w hR hL
      obtain ⟨k1, k2⟩ := h1 hl (chkBd_at hb0 ho hl1 hl2) a w hR hL
      have hg : ∀ v, GDL GL o.dst v → ∀ w', GD (fun d v _ => GH hist GL hl d v) o.dst v w' := by
        intro v hv w'
        cases hd : o.dst with
        | none => trivial
        | some d =>
          rw [hd] at hv
          show GH hist GL hl d v
          unfold GH
          rw [chkHist_at hh ho hd, hp]
          exact hv
      refine ⟨fun hw => (k1 hw).mono fun v w' hv => ⟨hRt _ _ _ hR hv.1, trivial, hg v hv.2 _⟩, fun hw => ⟨hR, trivial, hg _ (k2 hw).2 _⟩⟩
    | some k =>
      rw [hp] at h1
      intro hl hk a w hR hL
      obtain ⟨k1, k2⟩ := h1 hl hk a w hR hL
      have hg : ∀ v w', GD (fun d v _ => GH hist GL (hl ++ [v]) d v) o.dst v w' := by
        intro v w'
        cases hd : o.dst with
        | none => trivial
        | some d =>
          show GH hist GL (hl ++ [v]) d v
          unfold GH
          rw [chkHist_at hh ho hd, hp]
          simp only
          rw [← hk]
          simp
      refine ⟨fun hw => (k1 hw).mono fun v w' hv => ⟨hv, trivial, ?_⟩, fun hw => ⟨k2 hw, trivial, ?_⟩⟩
      · have := hg v w'
        cases hd : o.dst with
        | none => trivial
        | some d => rw [hd] at this; exact this
      · have := hg undef w
        cases hd : o.dst with
        | none => trivial
        | some d => rw [hd] at this; exact this
/-- THE LAW: dl = the slots that the region writes; st = the operations that turn the state, hist = their slots; R = the state when they have brought so much. -/
theorem wp_region_hs {id : Nat} (dl : List Tmp) (st bd : List Nat) (hist : List Tmp) (GL : Tmp → Value → Prop) (R : List Value → World → Prop) (hdl : ops.toList.filterMap (·.dst) = dl) (hm : P.follows .mixedOrders = true) (hc : chkAny ops a0.tmps.size = true) (hst : chkSt ops st = true) (hh : chkHist ops st hist = true) (hb : chkBd ops st bd = true)
    (hR0 : ∀ w, Turned (fun _ => False) w0 w → R [] w) (hRt : ∀ hs w w', R hs w → Turned (fun _ => False) w w' → R hs w') (hs : StepsH P hist GL ops a0 st bd R 0 ops.toList)
    (hQ : ∀ (hs : List Value) (vs : Tmp → Value) w, hs.length = st.length → R hs w → (∀ s ∈ dl, GH hist GL hs s (vs s)) → Q .normal ⟨dl.foldl (fun t d => t.setIfInBounds d (vs d)) a0.tmps, a0.defers⟩ w) : (Code.region id ops true).wp P Q a0 w0 := by
  refine wp_region_st (G := fun hs d v _ => GH hist GL hs d v) dl st R (fun _ _ => True) hdl hm hc hst hR0 (fun _ _ _ _ _ _ h => h) (fun hl x d v _ h => ?_) (StepsH.up hh hb hRt _ 0 (fun j o ho => by rw [Nat.zero_add]; rwa [Array.getElem?_toList] at ho) hs) hQ
  show GH hist GL (hl ++ [x]) d v
  have h' : GH hist GL hl d v := h
  unfold GH at h' ⊢
  split at h'
  · rename_i k hk
    exact (List.getElem?_append_left (List.getElem?_eq_some_iff.1 h').1).trans h'
  · exact h'
end
theorem wrapI {n : Int} (h0 : -9223372036854775808 ≤ n) (h1 : n ≤ 9223372036854775807) : IntKind.i64.wrap n = n := by rw [IntKind.wrap_i64]; omega
/-- append of at least one element, as a step brings it. -/
theorem brings_append {P : Program} {w : World} {o : Oper} {a : Act} {F : Value → World → Prop} (s x : Operand) (t : TypeId)
    (ho : o.op = .call { callee := .builtin .append, args := #[s, x], argTypes := #[t, t] })
    (e : TypeId) (i : TypeInfo) (z : Value) (size bytes : Nat) (ht : P.underlying t = some (.slice e)) (hi : P.info? e = some i) (hz : i.zero = some z)
    (hsize : i.size = size) (hby : i.bytes = bytes) (hzs : z.cells.size = size) (hsz : 0 < size)
    (v : Value) (n : Nat) (xs : List Value) (hs : a.eval s = v) (hown : Row w e size v n xs)
    (ad : Addr) (m c : Nat) (news : List Value) (hx : a.eval x = .slice (some ad) m c) (hl : news.length = m * size) (hnews : ∀ j u, news[j]? = some u → w.cell? (ad.add j) = some u) (h1 : ∀ u ∈ news, u.oneCell' = true)
    (hm : 0 < m) (h63 : n + m ≤ maxLen) (hbytes : (n + m) * bytes ≤ 140737488355328)
    (h : ∀ g cap w', Row w' e size (.slice (some ⟨g, 0, none⟩) (n + m) cap) (n + m) (xs ++ news) → Turned (fun k => v.ownBlock = some k) w w' → (some g = v.ownBlock ∨ g = w.heap.size) → F (.slice (some ⟨g, 0, none⟩) (n + m) cap) w') : Brings P F ((execOp a.eval o).run P w) := by
  obtain ⟨v', w', hr, h2, h3, h4, h5⟩ := run_append_row (P := P) w t o.type e i z size bytes ht hi hz hsize hby hzs hsz v n xs hown ad m c news hl hnews h1 h63 hbytes
  obtain ⟨g, cap, rfl⟩ := h2.shape_pos (by omega)
  unfold execOp
  simp only [ho, resolve, invoke, builtin, Sem.run_bind, Sem.run_pure, Result.andThen_ok, List.map_toArray, List.map_cons, List.map_nil, hs, hx, hr]
  refine h g cap w' h2 h3 ?_
  rcases h4 with h4 | h4
  · exact .inl h4
  · exact .inr (by simpa [Value.ownBlock] using h4)
end Go.Proofs.Ytoihjobdfjajfaa

/- own: a term as the document's own: its twin. -/
namespace Go.Proofs.Ytoihjobdfjajfaa
set_option linter.unusedVariables false
set_option linter.unusedSimpArgs false
open Go.RowKit

def zeroR : Value := .agg #[.int .i64 0, .int .i64 0, .string ByteArray.empty, .slice none 0 0]
theorem infoR : (Try.prog.info? 41).map (fun i => (i.zero, i.size, i.bytes)) = some (some zeroR, 4, 56) := by kernel_rfl
theorem cells_block (t : LT) : (t.cells.toArray).size = 4 := by rw [LT.cells_eq]; rfl
/-- A row of cells just laid. -/
theorem news_block {w : World} {g : Nat} {cs : List Value} {T : TypeId} (h : w.heap[g]? = some (.cells cs.toArray T (0, 0))) : ∀ j u, cs[j]? = some u → w.cell? ((⟨g, 0, none⟩ : Addr).add j) = some u := by
  intro j u hu
  rw [Addr.add_lit, Nat.zero_add, cell_of_row w g j _ T (0, 0) h]
  simpa using hu
theorem mem_flats_arg {α : Type} {l : List (Tm α)} {x y : Tm α} (hx : x ∈ l) (hy : y ∈ x.flat) : y ∈ Tm.flats l := by
  induction l with
  | nil => cases hx
  | cons z l ih =>
    simp only [Tm.flats, List.mem_append]
    rcases List.mem_cons.1 hx with rfl | h
    · exact .inl hy
    · exact .inr (ih h)
theorem mk_bare {α : Type} (t : Tm α) : t.bare = .mk t.kind t.n t.name () (Tm.bares t.args) := by cases t; rfl
theorem list2' {α : Type} {l : List α} (h : l.length = 2) : ∃ a b, l = [a, b] := by
  match l, h with
  | [a, b], _ => exact ⟨a, b, rfl⟩
theorem list3' {α : Type} {l : List α} (h : l.length = 3) : ∃ a b c, l = [a, b, c] := by
  match l, h with
  | [a, b, c], _ => exact ⟨a, b, c, rfl⟩
theorem list4' {α : Type} {l : List α} (h : l.length = 4) : ∃ a b c d, l = [a, b, c, d] := by
  match l, h with
  | [a, b, c, d], _ => exact ⟨a, b, c, d, rfl⟩
/-- Three blocks laid. -/
theorem three (w : World) (x y z : Obj) : Turned (fun _ => False) w (((w.alloc x).alloc y).alloc z) ∧ (((w.alloc x).alloc y).alloc z).heap.size = w.heap.size + 3 ∧ (((w.alloc x).alloc y).alloc z).heap[w.heap.size]? = some x ∧ (((w.alloc x).alloc y).alloc z).heap[w.heap.size + 2]? = some z ∧ (((w.alloc x).alloc y).alloc z).heap[w.heap.size + 1]? = some y := by
  refine ⟨(((Turned.refl _ w).alloc _).alloc _).alloc _, by simp, ?_, ?_, ?_⟩
  · exact (Below.heap_alloc _ _ _ (by simp; omega)).trans (heap_alloc2_old w x y)
  · have := heap_alloc_new ((w.alloc x).alloc y) z
    rwa [show ((w.alloc x).alloc y).heap.size = w.heap.size + 2 from by simp] at this
  · exact (Below.heap_alloc _ _ _ (by simp)).trans (heap_alloc2_new w x y)
/-- What lies in memory at the head of own's loop: the terms made so far, behind r's Args. -/
structure OwnI (N B2 : Nat) (t : LT) (w1 : World) (j : Nat) (us : List LT) (a : Option Addr) (c : Nat) (W : World) : Prop where
  bares : Tm.bares us = Tm.bares (t.args.take j)
  blk : W.heap[B2]? = some (.cells #[.int .i64 t.kind, .int .i64 t.n, .string t.name, .slice a j c] 41 (0, 0))
  row : Row W 41 4 (.slice a j c) j (us.flatMap LT.cells)
  ins : LT.Ins (fun k => N ≤ k ∧ (Value.slice a j c).ownBlock ≠ some k) W us
  own : ∀ b, (Value.slice a j c).ownBlock = some b → N ≤ b
  turned : Turned (fun k => k = B2) w1 W
/-- The region's state: own has been called, its cells laid, appended, stored. -/
def OwnS (N B2 : Nat) (t x : LT) (w1 : World) (j : Nat) (us : List LT) (a : Option Addr) (c : Nat) (wr : World) : List Value → World → Prop
  | [], W => Turned (fun _ => False) wr W
  | [uv], W => Turned (fun _ => False) wr W ∧ ∃ u : LT, uv = u.val ∧ u.bare = x.bare ∧ u.In (fun k => wr.heap.size ≤ k) W
  | [_, sv], W => Turned (fun _ => False) wr W ∧ ∃ (u : LT) (g : Nat), sv = .slice (some ⟨g, 0, none⟩) 1 1 ∧ u.bare = x.bare ∧ u.In (fun k => wr.heap.size ≤ k) W ∧ W.heap[g]? = some (.cells u.cells.toArray 41 (0, 0))
  | [_, _, av], W => ∃ (u : LT) (g cap : Nat), av = .slice (some ⟨g, 0, none⟩) (j + 1) cap ∧ u.bare = x.bare ∧ Row W 41 4 av (j + 1) (us.flatMap LT.cells ++ u.cells) ∧ LT.In (fun k => wr.heap.size ≤ k ∧ k ≠ g) W u ∧ Turned (fun k => (Value.slice a j c).ownBlock = some k) wr W ∧ (some g = (Value.slice a j c).ownBlock ∨ wr.heap.size ≤ g)
  | [_, _, _, _], W => ∃ us' a' c', OwnI N B2 t w1 (j + 1) us' a' c' W
  | _, _ => False
theorem OwnS.turned0 {N B2 : Nat} {t x : LT} {w1 wr : World} {j : Nat} {us : List LT} {a : Option Addr} {c : Nat} : ∀ (hs : List Value) (w w' : World), OwnS N B2 t x w1 j us a c wr hs w → Turned (fun _ => False) w w' → OwnS N B2 t x w1 j us a c wr hs w'
  | [], w, w', h, ht => Turned.trans h ht
  | [uv], w, w', h, ht => by
    obtain ⟨h1, u, h2, h3, h4⟩ := h
    exact ⟨h1.trans ht, u, h2, h3, h4.turned0 ht⟩
  | [_, sv], w, w', h, ht => by
    obtain ⟨h1, u, g, h2, h3, h4, h5⟩ := h
    exact ⟨h1.trans ht, u, g, h2, h3, h4.turned0 ht, (ht.block g (Array.getElem?_eq_some_iff.1 h5).1 (fun f => f)).trans h5⟩
  | [_, _, av], w, w', h, ht => by
    obtain ⟨u, g, cap, h1, h2, h3, h4, h5, h6⟩ := h
    exact ⟨u, g, cap, h1, h2, h3.turned0 ht, h4.turned0 ht, h5.trans (ht.mono (fun _ _ f => f.elim)), h6⟩
  | [_, _, _, _], w, w', h, ht => by
    obtain ⟨us', a', c', h⟩ := h
    exact ⟨us', a', c', h.bares, (ht.block B2 (Array.getElem?_eq_some_iff.1 h.blk).1 (fun f => f)).trans h.blk, h.row.turned0 ht, h.ins.turned0 ht, h.own, h.turned.trans (ht.mono (fun _ _ f => f.elim))⟩
  | _ :: _ :: _ :: _ :: _ :: _, _, _, h, _ => h.elim
theorem own_nil {N B2 : Nat} {t x : LT} {w1 wr W : World} {j : Nat} {us : List LT} {a : Option Addr} {c : Nat} {hs : List Value} (hl : hs.length ≤ 0) (h : OwnS N B2 t x w1 j us a c wr hs W) : Turned (fun _ => False) wr W := by
  obtain rfl : hs = [] := List.eq_nil_of_length_eq_zero (by omega)
  exact h
/-- r, as long as nothing has been appended. -/
theorem OwnS.blk {N B2 : Nat} {t x : LT} {w1 wr : World} {j : Nat} {us : List LT} {a : Option Addr} {c : Nat} (h : OwnI N B2 t w1 j us a c wr) (hs : List Value) (W : World) (hle : hs.length ≤ 2) (hS : OwnS N B2 t x w1 j us a c wr hs W) :
    W.cell? ⟨B2, 0, none⟩ = some (.int .i64 t.kind) ∧ W.cell? ⟨B2, 1, none⟩ = some (.int .i64 t.n) ∧ W.cell? ⟨B2, 2, none⟩ = some (.string t.name) ∧ W.cell? ⟨B2, 3, none⟩ = some (.slice a j c) := by
  have hT : Turned (fun _ => False) wr W := by
    match hs, hle, hS with
    | [], _, h => exact h
    | [_], _, h => exact h.1
    | [_, _], _, h => exact h.1
  obtain ⟨q0, q1, q2, q3, _⟩ := cells4 ((hT.block B2 (Array.getElem?_eq_some_iff.1 h.blk).1 (fun f => f)).trans h.blk)
  exact ⟨q0, q1, q2, q3⟩
/-- After the store. -/
theorem own_close {N B2 : Nat} {t x : LT} {w1 wr W : World} {j : Nat} {us : List LT} {a : Option Addr} {c g cap : Nat} {u : LT} (hB : B2 < N) (hN : N ≤ wr.heap.size) (h : OwnI N B2 t w1 j us a c wr) (hx : t.args[j]? = some x)
    (hu : u.bare = x.bare) (hr : Row W 41 4 (.slice (some ⟨g, 0, none⟩) (j + 1) cap) (j + 1) (us.flatMap LT.cells ++ u.cells)) (hi : LT.In (fun k => wr.heap.size ≤ k ∧ k ≠ g) W u) (hT : Turned (fun k => (Value.slice a j c).ownBlock = some k) wr W) (hg : some g = (Value.slice a j c).ownBlock ∨ wr.heap.size ≤ g) (hw : w1.heap.size ≤ N) :
    OwnI N B2 t w1 (j + 1) (us ++ [u]) (some ⟨g, 0, none⟩) cap (W.setCell ⟨B2, 3, none⟩ (.slice (some ⟨g, 0, none⟩) (j + 1) cap)) := by
  have hgN : N ≤ g := by
    rcases hg with e | e
    · exact h.own g e.symm
    · omega
  have hgB : g ≠ B2 := by omega
  have hbl : W.heap[B2]? = some (.cells #[.int .i64 t.kind, .int .i64 t.n, .string t.name, .slice a j c] 41 (0, 0)) :=
    (hT.block B2 (Array.getElem?_eq_some_iff.1 h.blk).1 (fun e => by have := h.own B2 e; omega)).trans h.blk
  have Ts : Turned (fun k => k = B2) W (W.setCell ⟨B2, 3, none⟩ (.slice (some ⟨g, 0, none⟩) (j + 1) cap)) := (Turned.refl (fun k => k = B2) W).setCell (p := ⟨B2, 3, none⟩) (.inr rfl) _
  refine ⟨?_, ?_, ?_, ?_, ?_, ?_⟩
  · rw [bares_snoc _ _ _ hx, ← h.bares, Tm.bares_eq, Tm.bares_eq, List.map_append, ← hu]; rfl
  · have := heap_setCell_same W B2 3 _ 41 (.slice (some ⟨g, 0, none⟩) (j + 1) cap) hbl
    simpa using this
  · rw [List.flatMap_append, List.flatMap_cons, List.flatMap_nil, List.append_nil]
    exact hr.setCell (by simp [Value.ownBlock]; exact hgB) _
  · rw [LT.ins_append]
    have hne : ∀ k, (Value.slice (some ⟨g, 0, none⟩) (j + 1) cap).ownBlock ≠ some k ↔ k ≠ g := by
      intro k; simp [Value.ownBlock]; exact ⟨fun h e => h e.symm, fun h e => h e.symm⟩
    refine ⟨?_, ?_, trivial⟩
    · have h1 : LT.Ins (fun k => N ≤ k ∧ k ≠ g) W us := h.ins.turned hT (fun k _ hk e => hk.2 e) (fun k hl hk => ⟨hk.1, fun e => by
        subst e
        rcases hg with e | e
        · exact hk.2 e.symm
        · omega⟩)
      refine h1.turned Ts (fun k _ hk e => by omega) (fun k _ hk => ⟨hk.1, (hne k).2 hk.2⟩)
    · exact hi.turned Ts (fun k _ hk e => by omega) (fun k _ hk => ⟨by omega, (hne k).2 hk.2⟩)
  · intro b hb
    simp [Value.ownBlock] at hb
    omega
  · exact (h.turned.step hT (fun i hi e => by have := h.own i e; omega)).setCell (p := ⟨B2, 3, none⟩) (.inr rfl) _
end Go.Proofs.Ytoihjobdfjajfaa

/- The document's vars, Vars. -/
namespace Go.Proofs.Ytoihjobdfjajfaa
set_option linter.unusedVariables false
set_option linter.unusedSimpArgs false
open Go.RowKit

theorem docVarss_snoc {α : Type} (l : List (Tm α)) (j : Nat) (x : Tm α) (vs : List Int) (h : l[j]? = some x) : Tm.docVarss (l.take (j + 1)) vs = Tm.docVars x (Tm.docVarss (l.take j) vs) := by
  rw [take_snoc' _ _ _ h]
  generalize l.take j = m
  induction m generalizing vs with
  | nil => rfl
  | cons y m ih => simp only [List.cons_append, Tm.docVarss]; exact ih _
mutual
theorem docVars_le {α : Type} : ∀ (t : Tm α) (l : List Int), (Tm.docVars t l).length ≤ l.length + t.size
  | .mk k n s e aa, l => by
    simp only [Tm.docVars, Tm.size]
    split
    · split
      · omega
      · simp only [List.length_append, List.length_singleton]; omega
    · have := docVarss_le aa l; omega
theorem docVarss_le {α : Type} : ∀ (m : List (Tm α)) (l : List Int), (Tm.docVarss m l).length ≤ l.length + Tm.sizes m
  | [], l => by simp [Tm.docVarss, Tm.sizes]
  | x :: m, l => by
    simp only [Tm.docVarss, Tm.sizes]
    have h1 := docVars_le x l
    have h2 := docVarss_le m (Tm.docVars x l)
    omega
end
theorem docVars_0 {α : Type} {t : Tm α} {l : List Int} (h : t.kind = 0) (hn : t.n ∈ l) : Tm.docVars t l = l := by
  cases t; simp only [Tm.kind, Tm.n] at h hn; simp [Tm.docVars, h, hn]
theorem docVars_1 {α : Type} {t : Tm α} {l : List Int} (h : t.kind = 0) (hn : t.n ∉ l) : Tm.docVars t l = l ++ [t.n] := by
  cases t; simp only [Tm.kind, Tm.n] at h hn; simp [Tm.docVars, h, hn, Tm.n]
theorem docVars_2 {α : Type} {t : Tm α} {l : List Int} (h : ¬ t.kind = 0) : Tm.docVars t l = Tm.docVarss t.args l := by
  cases t; simp only [Tm.kind] at h; simp [Tm.docVars, h, Tm.args]
theorem mem_take_snoc {l : List Int} {j : Nat} {x n : Int} (h : l[j]? = some x) (hn : n ∉ l.take j) (hx : ¬ x = n) : n ∉ l.take (j + 1) := by
  rw [take_snoc' _ _ _ h]
  intro hm
  rcases List.mem_append.1 hm with hm | hm
  · exact hn hm
  · rw [List.mem_singleton] at hm; exact hx hm.symm
theorem news_one {w : World} {g : Nat} {u : Value} {T : TypeId} (h : w.heap[g]? = some (.cells #[u] T (0, 0))) : ∀ j v, [u][j]? = some v → w.cell? ((⟨g, 0, none⟩ : Addr).add j) = some v := by
  intro j v hv
  rw [Addr.add_lit, Nat.zero_add, cell_of_row w g j _ T (0, 0) h]
  simpa using hv
/-- The row so far, and where it lies. -/
structure VRow (v0 : Value) (w1 : World) (v : Value) (xs : List Int) (w : World) : Prop where
  row : Row w 2 1 v xs.length (xs.map (Value.int .i64))
  own : v.ownBlock = v0.ownBlock ∨ ∃ g, v.ownBlock = some g ∧ w1.heap.size ≤ g
  turned : Turned (fun k => v0.ownBlock = some k) w1 w
def VarsR (t : LT) (xs : List Int) (v0 : Value) (w1 : World) (g : Nat) (v i : Value) (wr : World) : Prop :=
  ∃ j : Nat, Hid (j + g = t.args.length) ∧ j ≤ t.args.length ∧ i = .int .i64 j ∧ Hid (VRow v0 w1 v (Tm.docVarss (t.args.take j) xs) wr)

set_option maxRecDepth 100000 in
set_option maxHeartbeats 3200000 in
theorem vars131 (m : Nat) : ∀ (p : Nat → Prop) (t : LT) (v : Value) (xs : List Int) (w : World), t.depth ≤ m → t.In p w → (∀ k, p k → v.ownBlock ≠ some k) → Row w 2 1 v xs.length (xs.map (Value.int .i64)) → xs.length + t.size ≤ 100000 →
    Calls Try.prog 131 #[t.val, v] w fun e w' => ∃ v', e = .returned v' ∧ VRow v w v' (Tm.docVars t xs) w' := by
  induction m with
  | zero => intro p t v xs w h; have := Tm.depth_pos t; omega
  | succ k ih =>
  intro p t v xs w hd ht hp hrow hlen
  have hl := ht.len
  have hal : t.args.length ≤ 9223372036854775807 := by have := hl.1; have := hl.2.1; unfold maxLen at this; omega
  have hL := fun (q : Nat → Prop) W h => (LT.In.lies (p := q) (w := W) (t := t) h)
  obtain ⟨va, vc, rfl⟩ := hrow.shape
  have hvl := hrow.max.2
  have hvl1 := hrow.max.1
  rw [LT.val_eq]
  obtain ⟨a, ha⟩ : ∃ a, a = t.at_.1 := ⟨_, rfl⟩
  obtain ⟨c, hc⟩ : ∃ c, c = t.at_.2 := ⟨_, rfl⟩
  rw [← ha] at hL
  rw [← ha, ← hc]
  have HL := Lib.hid hL
  have HIN := Lib.hid ht
  have HD := Lib.hid hd
  have HIH := Lib.hid ih
  have HP := Lib.hid hp
  have hxl : xs.length ≤ 100000 := by omega
  have HLEN := Lib.hid hlen
  have HROW := Lib.hid hrow
  clear ha hc hl hL ht hd ih hp hrow hlen
  have T := fun o => (Turned.refl (fun k => (Value.slice va xs.length vc).ownBlock = some k) w).alloc o
  have HT1 := Lib.hid (T (.cells #[.int .i64 t.kind, .int .i64 t.n, .string t.name, .slice a t.args.length c] 41))
  have HS1 : Hid ((w.alloc (.cells #[.int .i64 t.kind, .int .i64 t.n, .string t.name, .slice a t.args.length c] 41)).heap.size = w.heap.size + 1) := by show _ = _; simp
  have hb1 := boxed w #[.int .i64 t.kind, .int .i64 t.n, .string t.name, .slice a t.args.length c] 41
  have HR1 := Lib.hid (HROW.out.alloc (.cells #[.int .i64 t.kind, .int .i64 t.n, .string t.name, .slice a t.args.length c] 41))
  have HTB := And.intro HT1 (And.intro HS1 (And.intro HR1 (Lib.hid hb1)))
  clear T HT1 hb1 HS1 HR1
  by_cases h0 : t.kind = 0
  · have k0 : (t.kind == 0) = true := by simp [h0]
    have H0 := Lib.hid h0
    clear h0
    go_enter Try.func131, Try.ntmps131
    go_wp2_with fail
    revert HTB
    generalize w.alloc (.cells #[.int .i64 t.kind, .int .i64 t.n, .string t.name, .slice a t.args.length c] 41) = w1
    intro HTB
    obtain ⟨HT1, HS1, HR1, HB1⟩ := HTB
    have b1 : w1.cell? ⟨w.heap.size, 1, none⟩ = some (.int .i64 t.n) := HB1.out 1
    clear HB1
    have B1 := Lib.hid b1
    clear b1
    go_loopg [5] xs.length (fun g i wr => ∃ j : Nat, Hid (j + g = xs.length) ∧ j ≤ xs.length ∧ i = .int .i64 j ∧ Hid (t.n ∉ xs.take j) ∧ Turned (fun _ => False) w1 wr)
    case atStart => exact ⟨0, Nat.zero_add _, Nat.zero_le _, rfl, show _ ∉ _ by simp, Turned.refl _ _⟩
    case round =>
      obtain ⟨j, HG, hj, rfl, HN, Tr⟩ := hrel
      have b1 := Tr.cell0 B1.out
      by_cases hjl : j < xs.length
      · have hx : xs[j]? = some xs[j] := List.getElem?_eq_getElem hjl
        obtain ⟨x, hxe⟩ : ∃ x, x = xs[j] := ⟨_, rfl⟩
        rw [← hxe] at hx
        clear hxe
        obtain ⟨g1, rfl⟩ := HR1.out.addr_pos (by omega)
        have k1 := (HR1.out.turned0 Tr).int_at hx
        have HX := Lib.hid hx
        clear hx
        by_cases hxn : x = t.n
        · have hq : (x == t.n) = true := by simp [hxn]
          have HXN := Lib.hid hxn
          clear hxn
          go_wp2_with fail
          go_quiet (fail)
          go_wp2_with fail
          go_ret
          refine ⟨_, rfl, ?_⟩
          have hm : t.n ∈ xs := by rw [← HXN.out]; exact List.mem_of_getElem? HX.out
          rw [docVars_0 H0.out hm]
          exact ⟨HR1.out.turned0 (Tr.trans ((Turned.refl _ wr).drewN _)), .inl rfl, HT1.out.trans ((Tr.trans ((Turned.refl _ wr).drewN _)).mono (fun _ _ f => f.elim))⟩
        · have hq : (x == t.n) = false := by simp [hxn]
          have HXN := Lib.hid hxn
          clear hxn
          go_wp2_with fail
          go_quiet (fail)
          go_wp2_with fail
          go_roundg (gk - 1)
          case measure => have := HG.out; omega
          case rel => exact ⟨j + 1, show _ = _ by have := HG.out; omega, by omega, by go_num, mem_take_snoc HX.out HN.out HXN.out, Tr.trans ((Turned.refl _ wr).drewN _)⟩
      · have hje : j = xs.length := by omega
        have hn := HN.out
        rw [hje, List.take_length] at hn
        have HNN := Lib.hid hn
        have hrw := HR1.out.turned0 Tr
        have HRW := Lib.hid hrw
        obtain ⟨i0, hi0, hz0, hz1, hz2⟩ := info_parts infoI
        clear hn hrw hje
        go_wp2_with (at_builtin; refine append_some _ rfl _ _ 24 rfl 2 i0 (.int .i64 0) 1 8 Try.underlying24 hi0 hz0 hz1 hz2 rfl (by decide) _ _ _ rfl (HRW.out.alloc _) ⟨wr.heap.size, 0, none⟩ 1 1 [.int .i64 t.n] rfl rfl (news_one (heap_alloc_new wr _)) (by simp [Value.oneCell']) (by omega) (by unfold maxLen; omega) (by omega) ?_; intro g5 cap5 w5 hown5 hg5 hloc5)
        go_ret
        refine ⟨_, rfl, ?_⟩
        rw [docVars_1 H0.out HNN.out]
        have h1 := Tr.size
        have h2 := HS1.out
        refine ⟨by simpa using hown5, ?_, ?_⟩
        · rcases hloc5 with e | e
          · exact .inl e
          · exact .inr ⟨g5, rfl, by simp at e; omega⟩
        · exact (HT1.out.trans (Tr.mono (fun _ _ f => f.elim))).step ((Turned.refl _ wr).alloc _ |>.trans hg5) (fun i _ e => e)
  · have k0 : (t.kind == 0) = false := by simp [h0]
    have H0 := Lib.hid h0
    clear h0
    go_enter Try.func131, Try.ntmps131
    go_wp2_with fail
    revert HTB
    generalize w.alloc (.cells #[.int .i64 t.kind, .int .i64 t.n, .string t.name, .slice a t.args.length c] 41) = w1
    intro HTB
    obtain ⟨HT1, HS1, HR1, HB1⟩ := HTB
    have b3 : w1.cell? ⟨w.heap.size, 3, none⟩ = some (.slice a t.args.length c) := HB1.out 3
    clear HB1
    have B3 := Lib.hid b3
    clear b3
    go_loopg [1, 6] t.args.length (fun g v i wr => VarsR t xs (.slice va xs.length vc) w1 g v i wr)
    case atStart => exact ⟨0, Nat.zero_add _, Nat.zero_le _, rfl, HR1.out, .inl rfl, Turned.refl _ _⟩
    case round =>
      obtain ⟨j, HG, hj, rfl, HV⟩ := hrel
      have hb := HV.out.turned.cell B3.out (fun e => by have := HROW.out.lt _ e; exact Nat.lt_irrefl _ this)
      obtain ⟨vb, vd, rfl⟩ := HV.out.row.shape
      by_cases hjl : j < t.args.length
      · have hx : t.args[j]? = some t.args[j] := List.getElem?_eq_getElem hjl
        obtain ⟨x, hxe⟩ : ∃ x : LT, x = t.args[j] := ⟨_, rfl⟩
        rw [← hxe] at hx
        clear hxe
        have hin : t.In (fun k => p k ∧ k < w.heap.size) wr := LT.In.turned (HT1.out.trans HV.out.turned) (fun k hk h e => HP.out k h e) (fun k hk h => ⟨h, hk⟩) t HIN.out
        have hxin := (LT.ins_iff _).1 hin.args x (List.mem_of_getElem? hx)
        obtain ⟨b, o, rfl, _, c0, c1, c2, c3⟩ := (HL.out _ _ hin).cell hx
        have hle1 := docVarss_le (t.args.take j) xs
        have hle2 := sizes_snoc t.args j x hx
        have hle3 := sizes_take_le t.args (j + 1)
        have hih := HIH.out _ x _ _ wr (by have := arg_depth (List.mem_of_getElem? hx); have := HD.out; omega) hxin (fun k hk e => by
          rcases HV.out.own with e' | ⟨g, e', hg⟩
          · exact HP.out k hk.1 (e'.symm.trans e)
          · rw [e'] at e; injection e with e; have := HS1.out; omega) HV.out.row (by have := HLEN.out; rw [Tm.size_eq] at this; omega)
        rw [LT.val_eq] at hih
        have HX := Lib.hid hx
        have HI := Lib.hid hih
        clear hx hih hxin hin hle1 hle2 hle3
        go_wp2_with (go_at_call 131; refine HI.out.mono ?_; rintro e w2 ⟨v2, rfl, V2⟩)
        go_roundg (gk - 1)
        case measure => have := HG.out; omega
        case rel =>
          refine ⟨j + 1, show _ = _ by have := HG.out; omega, by omega, by go_num, ?_⟩
          show VRow _ _ _ _ _
          rw [docVarss_snoc _ _ _ _ HX.out]
          have hs := HV.out.turned.size
          refine ⟨V2.row, ?_, HV.out.turned.step V2.turned (fun i hi e => ?_)⟩
          · rcases V2.own with e | ⟨g, e, hg⟩
            · rcases HV.out.own with e' | ⟨g', e', hg'⟩
              · exact .inl (e.trans e')
              · exact .inr ⟨g', e.trans e', hg'⟩
            · exact .inr ⟨g, e, by omega⟩
          · rcases HV.out.own with e' | ⟨g', e', hg'⟩
            · exact e'.symm.trans e
            · rw [e'] at e; injection e with e; omega
      · have hje : j = t.args.length := by omega
        have HQ : Hid (Tm.docVarss (t.args.take j) xs = Tm.docVarss t.args xs) := by show _ = _; rw [hje, List.take_length]
        go_wp2_with fail
        go_ret
        refine ⟨_, rfl, ?_⟩
        rw [docVars_2 H0.out, ← HQ.out]
        have hs := HS1.out
        have hV := HV.out
        refine ⟨hV.row, ?_, HT1.out.trans hV.turned⟩
        rcases hV.own with e | ⟨g, e, hg⟩
        · exact .inl e
        · exact .inr ⟨g, e, by omega⟩

set_option maxHeartbeats 800000 in
theorem rVars51 {p : Nat → Prop} {t : LT} {w : World} (ht : t.In p w) :
    Calls Try.prog 51 #[t.val] w fun e w' => ∃ v, e = .returned v ∧ Row w' 2 1 v (varsB t).length ((varsB t).map (Value.int .i64)) ∧ (∀ b, v.ownBlock = some b → w.heap.size ≤ b) ∧ Turned (fun _ => False) w w' := by
  obtain ⟨bx, hbx⟩ : ∃ bx : Obj, bx = .cells #[.int .i64 t.kind, .int .i64 t.n, .string t.name, .slice t.at_.1 t.args.length t.at_.2] 41 := ⟨_, rfl⟩
  have T1 := (Turned.refl (fun _ => False) w).alloc bx
  have hin : ∀ W, Turned (fun _ => False) (w.alloc bx) W → t.In p W := fun W h => ht.turned0 (T1.trans h)
  have hc : ∀ W, Turned (fun _ => False) (w.alloc bx) W → W.cell? ⟨w.heap.size, 0, none⟩ = some (.int .i64 t.kind) ∧ W.cell? ⟨w.heap.size, 1, none⟩ = some (.int .i64 t.n) ∧ W.cell? ⟨w.heap.size, 2, none⟩ = some (.string t.name) ∧ W.cell? ⟨w.heap.size, 3, none⟩ = some (.slice t.at_.1 t.args.length t.at_.2) := by
    intro W h
    subst hbx
    obtain ⟨hb, _⟩ := box4 h
    obtain ⟨c0, c1, c2, c3, _⟩ := cells4 hb
    exact ⟨c0, c1, c2, c3⟩
  have h1 := fun W h => rGood45 (hin W h)
  have h2 := fun (hg : goodB t = true) W h => vars131 t.depth p t (.slice none 0 0) [] W (Nat.le_refl _) (hin W h) (fun _ _ e => by simp [Value.ownBlock] at e) (Row.nil _ _ _) (by have := good_size hg; simp; omega)
  rw [LT.val_eq] at h1 h2 ⊢
  have H1 := Lib.hid h1
  have H2 := Lib.hid h2
  have HC := Lib.hid hc
  have HT := Lib.hid T1
  subst hbx
  clear h1 h2 hc T1 hin
  cases hg : goodB t with
  | true =>
    rw [hg] at H1
    have HR : Hid (varsB t = Tm.docVars t []) := by
      show _ = _
      unfold varsB
      rw [if_pos hg]
      exact (Tm.docVars_eq t [] (fun x hx hk => by
        have h1 := good_ones hg x hx
        rw [goodOneB_0 x hk] at h1
        simp only [Bool.and_eq_true, decide_eq_true_eq] at h1
        exact List.eq_nil_of_length_eq_zero (of_decide_eq_true (by simpa using h1.2.2.2)))).symm
    have HG := Lib.hid hg
    clear hg
    go_enter Try.func51, Try.ntmps51
    go_wp2_with (first
      | (go_at_call 45; refine (H1.out _ (Turned.refl _ _)).mono ?_; rintro e w2 ⟨rfl, T2⟩; obtain ⟨c0, c1, c2, c3⟩ := HC.out _ T2)
      | (go_at_call 131; refine (H2.out HG.out _ T2).mono ?_; rintro e w3 ⟨v3, rfl, V3⟩))
    go_ret
    have T3 : Turned (fun _ => False) w2 w3 := V3.turned.mono (fun _ _ e => by simp [Value.ownBlock] at e)
    refine ⟨v3, rfl, by rw [HR.out]; exact V3.row, fun b hb => ?_, HT.out.trans (T2.trans T3)⟩
    rcases V3.own with e | ⟨g, e, hg⟩
    · rw [e] at hb; simp [Value.ownBlock] at hb
    · rw [e] at hb; injection hb with hb; have := HT.out.size; have := T2.size; omega
  | false =>
    rw [hg] at H1
    have HR : Hid (varsB t = []) := by show _ = _; unfold varsB; rw [hg]; rfl
    clear hg H2
    go_enter Try.func51, Try.ntmps51
    go_wp2_with (go_at_call 45; refine (H1.out _ (Turned.refl _ _)).mono ?_; rintro e w2 ⟨rfl, T2⟩; obtain ⟨c0, c1, c2, c3⟩ := HC.out _ T2)
    go_ret
    refine ⟨_, rfl, by rw [HR.out]; exact Row.nil _ _ _, fun b hb => by simp [Value.ownBlock] at hb, HT.out.trans T2⟩
end Go.Proofs.Ytoihjobdfjajfaa

/- Items: a list's items, and what ends it. -/
namespace Go.Proofs.Ytoihjobdfjajfaa
set_option linter.unusedVariables false
set_option linter.unusedSimpArgs false
open Go.RowKit

theorem isDot_facts {α : Type} {t : Tm α} (h : Tm.isDot t = true) : t.kind = 2 ∧ t.name = Tm.dot ∧ t.args.length = 2 := by
  unfold Tm.isDot at h
  simp only [Bool.and_eq_true] at h
  exact ⟨of_decide_eq_true h.1, of_decide_eq_true h.2.1, of_decide_eq_true h.2.2⟩
theorem isDot_no {α : Type} {t : Tm α} (h : Tm.isDot t = false) : ¬ t.kind = 2 ∨ (t.kind = 2 ∧ ¬ t.name = Tm.dot) ∨ (t.kind = 2 ∧ t.name = Tm.dot ∧ ¬ t.args.length = 2) := by
  by_cases h1 : t.kind = 2
  · by_cases h2 : t.name = Tm.dot
    · by_cases h3 : t.args.length = 2
      · unfold Tm.isDot at h; simp [h1, h2, h3] at h
      · exact .inr (.inr ⟨h1, h2, h3⟩)
    · exact .inr (.inl ⟨h1, h2⟩)
  · exact .inl h1
theorem mem_flats_of {α : Type} {l : List (Tm α)} {z : Tm α} (h : z ∈ Tm.flats l) : ∃ x ∈ l, z ∈ x.flat := by
  induction l with
  | nil => simp [Tm.flats] at h
  | cons y l ih =>
    simp only [Tm.flats, List.mem_append] at h
    rcases h with h | h
    · exact ⟨y, List.mem_cons_self .., h⟩
    · obtain ⟨x, hx, hz⟩ := ih h
      exact ⟨x, List.mem_cons_of_mem _ hx, hz⟩
theorem mem_flat_trans' {α : Type} (n : Nat) : ∀ {t0 t z : Tm α}, t0.depth ≤ n → t ∈ t0.flat → z ∈ t.flat → z ∈ t0.flat := by
  induction n with
  | zero => intro t0 t z h; have := Tm.depth_pos t0; omega
  | succ n ih =>
    intro t0 t z hn h1 h2
    rw [Tm.flat_eq] at h1
    rcases List.mem_cons.1 h1 with rfl | h1
    · exact h2
    · obtain ⟨x, hx, hz⟩ := mem_flats_of h1
      rw [Tm.flat_eq]
      exact List.mem_cons_of_mem _ (mem_flats_arg hx (ih (by have := arg_depth hx; omega) hz h2))
theorem mem_flat_trans {α : Type} {t0 t z : Tm α} (h1 : t ∈ t0.flat) (h2 : z ∈ t.flat) : z ∈ t0.flat := mem_flat_trans' _ (Nat.le_refl _) h1 h2
theorem lies2 {p : Nat → Prop} {w : World} {a : Option Addr} {x y : LT} (h : LT.Lies p w a [x, y]) :
    ∃ b o, a = some ⟨b, o, none⟩ ∧ p b ∧ w.cell? ⟨b, o, none⟩ = some (.int .i64 x.kind) ∧ w.cell? ⟨b, o + 1, none⟩ = some (.int .i64 x.n) ∧ w.cell? ⟨b, o + 2, none⟩ = some (.string x.name) ∧ w.cell? ⟨b, o + 3, none⟩ = some (.slice x.at_.1 x.args.length x.at_.2) ∧
      w.cell? ⟨b, o + 4, none⟩ = some (.int .i64 y.kind) ∧ w.cell? ⟨b, o + 5, none⟩ = some (.int .i64 y.n) ∧ w.cell? ⟨b, o + 6, none⟩ = some (.string y.name) ∧ w.cell? ⟨b, o + 7, none⟩ = some (.slice y.at_.1 y.args.length y.at_.2) := by
  obtain ⟨b, o, e, hp, hc⟩ := h (by simp)
  have e1 := LT.cells_eq x
  have e2 := LT.cells_eq y
  refine ⟨b, o, e, hp, hc 0 _ ?_, hc 1 _ ?_, hc 2 _ ?_, hc 3 _ ?_, hc 4 _ ?_, hc 5 _ ?_, hc 6 _ ?_, hc 7 _ ?_⟩ <;> simp [e1, e2]
theorem results_tmp_cell {P : Program} {fn : Func} {s p : Tmp} {ty : TypeId} (h : fn.results = #[.tmp s, .cell p ty]) (tmps : Array Value) (w : World) (g : Nat) (t : TypeId) (cs : Array Value) (fr : Nat × Nat) (d : TypeDesc)
    (hp : tmps.getD p undef = .pointer (some ⟨g, 0, none⟩)) (hg : w.heap[g]? = some (.cells cs t fr))
    (hu : P.underlying ty = some d) (hd : (match d with | .struct _ | .array _ _ => true | _ => false) = true) (hi : (P.info? ty).map (·.size) = some cs.size) :
    (results fn tmps).run P w = .ok (.tuple #[tmps.getD s undef, .agg cs]) w := by
  have hp' : tmps[p]?.getD undef = .pointer (some ⟨g, 0, none⟩) := by simpa using hp
  simp [results, h, hp', asAddr, run_loadVar_row w g t ty cs fr d hg hu hd hi]
theorem items_dep {α : Type} (n : Nat) : ∀ t : Tm α, t.size ≤ n → (Tm.items t).1.length ≤ t.depth := by
  induction n with
  | zero => intro t h; have := Tm.size_pos t; omega
  | succ n ih =>
    intro t h
    cases hd : Tm.isDot t with
    | true =>
      obtain ⟨a, b, h1, h2, h3⟩ := Tm.items_dot hd
      have := ih b (by omega)
      have hb : b.depth < t.depth := arg_depth (by rw [h1]; simp)
      rw [h2]
      simp only [List.length_cons]
      omega
    | false => rw [Tm.items_end hd]; simp
/-- The last stores: the block of the result. -/
def EndS (B1 : Nat) (ty : TypeId) (y : LT) (wr : World) : List Value → World → Prop
  | [], W => Turned (fun _ => False) wr W
  | [_], W => W.heap[B1]? = some (.cells #[.int .i64 y.kind, .int .i64 y.n, .string y.name, .slice y.at_.1 y.args.length y.at_.2] ty (0, 0)) ∧ Turned (fun k => k = B1) wr W
  | _, _ => False
theorem EndS.turned0 {B1 : Nat} {ty : TypeId} {y : LT} {wr : World} : ∀ (hs : List Value) (w w' : World), EndS B1 ty y wr hs w → Turned (fun _ => False) w w' → EndS B1 ty y wr hs w'
  | [], _, _, h, ht => Turned.trans h ht
  | [_], _, _, h, ht => ⟨(ht.block B1 (Array.getElem?_eq_some_iff.1 h.1).1 (fun f => f)).trans h.1, h.2.trans (ht.mono (fun _ _ f => f.elim))⟩
  | _ :: _ :: _, _, _, h, _ => h.elim
theorem end_nil {B1 : Nat} {ty : TypeId} {y : LT} {wr W : World} {hs : List Value} (hl : hs.length ≤ 0) (h : EndS B1 ty y wr hs W) : Turned (fun _ => False) wr W := by
  obtain rfl : hs = [] := List.eq_nil_of_length_eq_zero (by omega)
  exact h
theorem end_one {B1 : Nat} {ty : TypeId} {y : LT} {wr W : World} {hs : List Value} (hl : hs.length = 1) (h : EndS B1 ty y wr hs W) : W.heap[B1]? = some (.cells #[.int .i64 y.kind, .int .i64 y.n, .string y.name, .slice y.at_.1 y.args.length y.at_.2] ty (0, 0)) ∧ Turned (fun k => k = B1) wr W := by
  obtain ⟨v, rfl⟩ := List.length_eq_one_iff.1 hl
  exact h
/-- At the loop's head: the items so far; the box of t holds what is left. -/
structure ItemI (p : Nat → Prop) (N B0 : Nat) (ty : TypeId) (t0 : LT) (w1 : World) (g : Nat) (v : Value) (us : List LT) (t : LT) (wr : World) : Prop where
  fuel : t.size = g
  items : Tm.items t0 = (us ++ (Tm.items t).1, (Tm.items t).2)
  mem : t ∈ t0.flat
  blk : wr.heap[B0]? = some (.cells #[.int .i64 t.kind, .int .i64 t.n, .string t.name, .slice t.at_.1 t.args.length t.at_.2] ty (0, 0))
  row : Row wr ty 4 v us.length (us.flatMap LT.cells)
  own : ∀ b, v.ownBlock = some b → N ≤ b
  turned : Turned (fun k => k = B0) w1 wr
theorem item_next {p : Nat → Prop} {N B0 : Nat} {ty : TypeId} {t0 : LT} {w1 : World} {g : Nat} {v : Value} {us : List LT} {t x y : LT} {wr w5 : World} {o : Obj} {g5 cap5 : Nat} (h : ItemI p N B0 ty t0 w1 g v us t wr) (hd : Tm.isDot t = true) (hxy : t.args = [x, y]) (hN : B0 < N) (hw : w1.heap.size = N)
    (hr : Row w5 ty 4 (.slice (some ⟨g5, 0, none⟩) (us.length + 1) cap5) (us.length + 1) (us.flatMap LT.cells ++ x.cells)) (hT : Turned (fun k => v.ownBlock = some k) (wr.alloc o) w5) (hl : some g5 = v.ownBlock ∨ g5 = (wr.alloc o).heap.size) :
    ItemI p N B0 ty t0 w1 y.size (.slice (some ⟨g5, 0, none⟩) (us.length + 1) cap5) (us ++ [x]) y ((((w5.setCell ⟨B0, 0, none⟩ (.int .i64 y.kind)).setCell ⟨B0, 1, none⟩ (.int .i64 y.n)).setCell ⟨B0, 2, none⟩ (.string y.name)).setCell ⟨B0, 3, none⟩ (.slice y.at_.1 y.args.length y.at_.2)) ∧ y.size < g := by
  obtain ⟨a, b, e1, e2, e3⟩ := Tm.items_dot hd
  rw [hxy] at e1
  injection e1 with ea eb
  injection eb with eb
  subst ea eb
  have hs := h.turned.size
  have hg5 : N ≤ g5 := by
    rcases hl with e | e
    · exact h.own g5 e.symm
    · simp at e; omega
  have hne : ∀ q, (Value.slice (some ⟨g5, 0, none⟩) (us.length + 1) cap5).ownBlock ≠ some (Addr.block ⟨B0, q, none⟩) := fun q e => by simp [Value.ownBlock] at e; omega
  have hTw : Turned (fun k => v.ownBlock = some k) wr w5 := ((Turned.refl _ wr).alloc o).trans hT
  have hb5 : w5.heap[B0]? = some (.cells #[.int .i64 t.kind, .int .i64 t.n, .string t.name, .slice t.at_.1 t.args.length t.at_.2] ty (0, 0)) := (hTw.block B0 (Array.getElem?_eq_some_iff.1 h.blk).1 (fun e => by have := h.own B0 e; omega)).trans h.blk
  refine ⟨⟨rfl, ?_, ?_, set4 hb5, ?_, ?_, ?_⟩, by rw [← h.fuel]; exact e3⟩
  · rw [h.items, e2]; simp
  · have hf : ∀ z : LT, z ∈ t.flat → z ∈ t0.flat := fun z hz => mem_flat_trans h.mem hz
    refine hf y ?_
    rw [Tm.flat_eq, hxy]
    simp only [Tm.flats, List.mem_cons, List.mem_append, List.append_nil]
    exact .inr (.inr (by rw [Tm.flat_eq]; exact List.mem_cons_self ..))
  · rw [List.flatMap_append, List.flatMap_cons, List.flatMap_nil, List.append_nil, List.length_append, List.length_singleton]
    exact (((hr.setCell (hne 0) _).setCell (hne 1) _).setCell (hne 2) _).setCell (hne 3) _
  · intro b hb
    simp [Value.ownBlock] at hb
    omega
  · exact ((((h.turned.step hTw (fun i hi e => by have := h.own i e; omega)).setCell (p := ⟨B0, 0, none⟩) (.inr rfl) _).setCell (p := ⟨B0, 1, none⟩) (.inr rfl) _).setCell (p := ⟨B0, 2, none⟩) (.inr rfl) _).setCell (p := ⟨B0, 3, none⟩) (.inr rfl) _
theorem two (w : World) (x y : Obj) : Turned (fun _ => False) w ((w.alloc x).alloc y) ∧ ((w.alloc x).alloc y).heap.size = w.heap.size + 2 ∧ ((w.alloc x).alloc y).heap[w.heap.size]? = some x ∧ ((w.alloc x).alloc y).heap[w.heap.size + 1]? = some y :=
  ⟨((Turned.refl _ w).alloc _).alloc _, by simp, heap_alloc2_old w x y, heap_alloc2_new w x y⟩
theorem dot_eq {s : ByteArray} (h : s = Tm.dot) : (s.toList == [46]) = true := by
  rw [h, show Tm.dot.toList = [46] from by unfold Tm.dot; rw [ByteArray.toList_eq]]
  rfl
theorem dot_neq {s : ByteArray} (h : ¬ s = Tm.dot) : (s.toList == [46]) = false := by
  have := str_neq h
  rwa [show Tm.dot.toList = [46] from by unfold Tm.dot; rw [ByteArray.toList_eq]] at this
theorem news_cells (x : LT) {w : World} {g : Nat} {T : TypeId} (h : w.heap[g]? = some (.cells #[.int .i64 x.kind, .int .i64 x.n, .string x.name, .slice x.at_.1 x.args.length x.at_.2] T (0, 0))) : ∀ j u, x.cells[j]? = some u → w.cell? ((⟨g, 0, none⟩ : Addr).add j) = some u :=
  news_block (by rw [LT.cells_eq]; exact h)

set_option maxRecDepth 100000 in
set_option maxHeartbeats 3200000 in
theorem items47 {p : Nat → Prop} {t : LT} {w : World} (ht : t.In p w) (hsl : slim t) (hsz : t.depth ≤ 60000) :
    Calls Try.prog 47 #[t.val] w fun e w' => ∃ (v : Value) (us : List LT) (y : LT), e = .returned (.tuple #[v, y.val]) ∧ (us, y) = Tm.items t ∧ Row w' 41 4 v us.length (us.flatMap LT.cells) ∧ (∀ b, v.ownBlock = some b → w.heap.size ≤ b) ∧ Turned (fun _ => False) w w' := by
  obtain ⟨i0, hi0, hz0, hz1, hz2⟩ := info_parts infoR
  have HIN := Lib.hid ht
  have HSZ := Lib.hid hsz
  have h2 := two w (.cells #[.int .i64 t.kind, .int .i64 t.n, .string t.name, .slice t.at_.1 t.args.length t.at_.2] 41) (.cells #[.int .i64 0, .int .i64 0, .string ⟨#[]⟩, .slice none 0 0] 41)
  rw [LT.val_eq]
  have H2 := Lib.hid h2
  clear h2 ht hsz
  go_enter Try.func47, Try.ntmps47
  go_wp2_with fail
  · revert H2
    generalize (w.alloc (.cells #[.int .i64 t.kind, .int .i64 t.n, .string t.name, .slice t.at_.1 t.args.length t.at_.2] 41)).alloc (.cells #[.int .i64 0, .int .i64 0, .string ⟨#[]⟩, .slice none 0 0] 41) = w1
    intro H2
    replace H2 : Hid (Turned (fun _ => False) w w1 ∧ w.heap.size + 2 ≤ w1.heap.size ∧ _ ∧ _) := ⟨H2.out.1, by have := H2.out.2.1; omega, H2.out.2.2.1, H2.out.2.2.2⟩
    obtain ⟨B0, hB0⟩ : ∃ z, z = w.heap.size := ⟨_, rfl⟩
    obtain ⟨B1, hB1⟩ : ∃ z, z = w.heap.size + 1 := ⟨_, rfl⟩
    obtain ⟨N, hN⟩ : ∃ z, z = w1.heap.size := ⟨_, rfl⟩
    rw [← hB1, ← hB0] at H2
    have HE := Lib.hid (And.intro hB0 (And.intro hB1 hN))
    try rw [← hB1]
    try rw [← hB0]
    clear hB0 hB1 hN
    have hinit : Hid (ItemI p N B0 41 t w1 t.size (.slice none 0 0) [] t w1) := ⟨rfl, by simp, by rw [Tm.flat_eq]; exact List.mem_cons_self .., H2.out.2.2.1, Row.nil _ _ _, fun b h => by simp [Value.ownBlock] at h, Turned.refl _ _⟩
    go_loopg [4] t.size (fun g v wr => ∃ us y, Hid (ItemI p N B0 41 t w1 g v us y wr))
    case atStart => exact ⟨[], t, hinit⟩
    case round =>
      obtain ⟨us, y, HI⟩ := hrel
      obtain ⟨va, vc, rfl⟩ := HI.out.row.shape
      have hvl := HI.out.row.max
      have hul : us.length ≤ 60000 := by
        have h1 := items_dep t.size t (Nat.le_refl _)
        rw [HI.out.items] at h1
        simp only [List.length_append] at h1
        have := HSZ.out
        omega
      have hyin : y.In (fun k => p k ∧ k < w.heap.size) wr := LT.In.flat t (LT.In.turned (H2.out.1.step (T := fun k => k = B0) HI.out.turned (fun i hi e => by have := HE.out; omega)) (fun _ _ _ f => f) (fun k hk h => ⟨h, hk⟩) t HIN.out) y HI.out.mem
      obtain ⟨q0, q1, q2, q3, f0, f1, f2, f3⟩ := cells4 HI.out.blk
      have hal : y.args.length ≤ 9223372036854775807 := by have := hyin.len.1; have := hyin.len.2.1; unfold maxLen at this; omega
      cases hd : Tm.isDot y with
      | true =>
        obtain ⟨e1, e2, e3⟩ := isDot_facts hd
        obtain ⟨x, z, hxz, _⟩ : ∃ x z : LT, y.args = [x, z] ∧ Tm.items y = (x :: (Tm.items z).1, (Tm.items z).2) ∧ z.size < y.size := Tm.items_dot hd
        have hl := hyin.lies
        rw [hxz] at hl
        obtain ⟨b, o, ha, hpb, x0, x1, x2, x3, z0, z1, z2, z3⟩ := lies2 hl
        rw [e1] at q0
        rw [e2] at q2
        rw [e3, ha] at q3
        unfold Tm.dot at q2
        have HK : Hid (∀ W, Turned (fun k => (Value.slice va us.length vc).ownBlock = some k) (wr.alloc (.cells #[.int .i64 x.kind, .int .i64 x.n, .string x.name, .slice x.at_.1 x.args.length x.at_.2] 41)) W → (W.cell? ⟨B0, 3, none⟩ = some (.slice (some ⟨b, o, none⟩) 2 y.at_.2) ∧ W.cell? ⟨B0, 0, none⟩ = some (.int .i64 2) ∧ W.cell? ⟨B0, 1, none⟩ = some (.int .i64 y.n) ∧ W.cell? ⟨B0, 2, none⟩ = some (.string ⟨#[46]⟩)) ∧ (W.frozen? ⟨B0, 0, none⟩ = false ∧ W.frozen? ⟨B0, 1, none⟩ = false ∧ W.frozen? ⟨B0, 2, none⟩ = false ∧ W.frozen? ⟨B0, 3, none⟩ = false) ∧ W.cell? ⟨b, o + 4, none⟩ = some (.int .i64 z.kind) ∧ W.cell? ⟨b, o + 5, none⟩ = some (.int .i64 z.n) ∧ W.cell? ⟨b, o + 6, none⟩ = some (.string z.name) ∧ W.cell? ⟨b, o + 7, none⟩ = some (.slice z.at_.1 z.args.length z.at_.2)) := fun W h => by
          have h' : Turned (fun k => (Value.slice va us.length vc).ownBlock = some k) wr W := ((Turned.refl _ wr).alloc _).trans h
          have hn0 : ¬ (Value.slice va us.length vc).ownBlock = some B0 := fun e => by have := HI.out.own _ e; have := HE.out; have := H2.out.2.1; omega
          have hnb : ¬ (Value.slice va us.length vc).ownBlock = some b := fun e => by have := HI.out.own _ e; have := HE.out; have := H2.out.2.1; omega
          have hbl := (h'.block B0 (Array.getElem?_eq_some_iff.1 HI.out.blk).1 hn0).trans HI.out.blk
          obtain ⟨_, _, _, _, g0, g1, g2, g3⟩ := cells4 hbl
          exact ⟨⟨h'.cell q3 hn0, h'.cell q0 hn0, h'.cell q1 hn0, h'.cell q2 hn0⟩, ⟨g0, g1, g2, g3⟩, h'.cell z0 hnb, h'.cell z1 hnb, h'.cell z2 hnb, h'.cell z3 hnb⟩
        have HDD := Lib.hid hd
        have HXZ := Lib.hid hxz
        have HBN : Hid (B0 < N ∧ w1.heap.size = N) := ⟨by have := HE.out; have := H2.out.2.1; omega, by have := HE.out; omega⟩
        clear hl ha hpb hd hxz e1 e2 e3 hyin z0 z1 z2 z3
        go_wp2_with (at_builtin; refine append_some _ rfl _ _ 39 rfl 41 i0 zeroR 4 56 Try.underlying39 hi0 hz0 hz1 hz2 rfl (by decide) _ _ _ rfl (HI.out.row.alloc (.cells #[.int .i64 x.kind, .int .i64 x.n, .string x.name, .slice x.at_.1 x.args.length x.at_.2] 41)) ⟨wr.heap.size, 0, none⟩ 1 1 x.cells rfl (LT.cells_length x) (news_cells x (heap_alloc_new wr _)) (LT.cells_one x) (by omega) (by unfold maxLen; omega) (by omega) ?_; intro g5 cap5 w5 hown5 hg5 hloc5; obtain ⟨⟨r3, r0, r1, r2⟩, ⟨f0, f1, f2, f3⟩, z0, z1, z2, z3⟩ := HK.out _ hg5)
        obtain ⟨n1, n2⟩ := item_next HI.out HDD.out HXZ.out HBN.out.1 HBN.out.2 hown5 hg5 hloc5
        go_roundg z.size
        case measure => exact n2
        case rel => exact ⟨us ++ [x], z, n1⟩
      | false =>
        have HRES : Hid (Tm.items t = (us, y)) := by
          show _ = _
          rw [HI.out.items, Tm.items_end hd, List.append_nil]
        have HB0 := Lib.hid HI.out.blk
        have HB1 : Hid (wr.heap[B1]? = some (.cells #[.int .i64 0, .int .i64 0, .string ⟨#[]⟩, .slice none 0 0] 41 (0, 0))) := (HI.out.turned.block B1 (Array.getElem?_eq_some_iff.1 H2.out.2.2.2).1 (fun e => by have := HE.out; omega)).trans H2.out.2.2.2
        have hfin : ∀ (vs : Tmp → Value) (W : World), EndS B1 41 y wr [undef] W → ∃ v us2 y2, Ending.returned (.tuple #[.slice va us.length vc, .agg #[.int .i64 y.kind, .int .i64 y.n, .string y.name, .slice y.at_.1 y.args.length y.at_.2]]) = .returned (.tuple #[v, LT.val y2]) ∧ (us2, y2) = Tm.items t ∧ Row W 41 4 v us2.length (us2.flatMap LT.cells) ∧ (∀ b, v.ownBlock = some b → w.heap.size ≤ b) ∧ Turned (fun _ => False) w W := by
          intro vs W hE
          have hne : ∀ k, (Value.slice va us.length vc).ownBlock = some k → ¬ k = B1 := fun k e e' => by have := HI.out.own _ e; have := HE.out; have := H2.out.2.1; omega
          refine ⟨_, us, y, by rw [LT.val_eq], HRES.out.symm, HI.out.row.turned hE.2 hne, fun b hb => ?_, ?_⟩
          · have := HI.out.own b hb; have := HE.out; have := H2.out.2.1; omega
          · exact (H2.out.1.step HI.out.turned (fun i hi e => by have := HE.out; omega)).step hE.2 (fun i hi e => by have := HE.out; omega)
        have HFIN := Lib.hid hfin
        clear hfin hyin
        rcases isDot_no hd with h | ⟨h, h'⟩ | ⟨h, h', h''⟩
        · have t1 : (y.kind == 2) = false := by simp [h]
          clear h hd
          go_wp2_with fail
          refine wp_region_hs [30, 31, 2] [3] [1, 0, 1, 1] [100003] (fun d v => (match d with | 30 => v = .slice va us.length vc | 31 => v = .agg #[.int .i64 y.kind, .int .i64 y.n, .string y.name, .slice y.at_.1 y.args.length y.at_.2] | 2 => v = .slice va us.length vc | _ => True : Prop)) (EndS B1 41 y wr) (by kernel_rfl) rfl (by kernel_rfl) (by kernel_rfl) (by kernel_rfl) (by kernel_rfl) (fun _ h => h) (fun hs w w' h ht => EndS.turned0 hs w w' h ht) ?hs ?hQ
          case hs =>
            refine ⟨?s0, ?s1, ?s2, ?s3, trivial⟩
            case s0 =>
              refine fun hs hle => stepG_free [] [4] (by kernel_rfl) rfl ?_
              · intro ac W hT hI hO
                have h4 : ac.tmps.getD 4 undef = .slice va us.length vc := hO 4 (by simp)
                show Brings Try.prog (fun v w' => Turned (fun _ => False) W w' ∧ v = .slice va us.length vc) _
                simp only [execOp, Act.eval, h4]
                go_simp
                try exact ⟨Turned.refl _ _, rfl⟩
            case s1 =>
              refine fun hs hle => stepG_free [] [1] (by kernel_rfl) rfl ?_
              · intro ac W hT hI hO
                have hle : hs.length ≤ 0 := hle
                have h1 : ac.tmps.getD 1 undef = .pointer (some ⟨B0, 0, none⟩) := hO 1 (by simp)
                show Brings Try.prog (fun v w' => Turned (fun _ => False) W w' ∧ v = .agg #[.int .i64 y.kind, .int .i64 y.n, .string y.name, .slice y.at_.1 y.args.length y.at_.2]) _
                have hT0 := end_nil (by omega) hT; obtain ⟨e0, e1, e2, e3, _⟩ := cells4 ((hT0.block B0 (Array.getElem?_eq_some_iff.1 HB0.out).1 (fun f => f)).trans HB0.out)
                simp only [execOp, Act.eval, h1]
                go_simp
                exact ⟨Turned.refl _ _, rfl⟩
            case s2 =>
              refine fun hs hle => stepG_free [30] [] (by kernel_rfl) rfl ?_
              · intro ac W hT hI hO
                have h30 : ac.tmps.getD 30 undef = .slice va us.length vc := hI 30 (by simp)
                show Brings Try.prog (fun v w' => Turned (fun _ => False) W w' ∧ v = .slice va us.length vc) _
                simp only [execOp, Act.eval, h30]
                go_simp
                try exact ⟨Turned.refl _ _, rfl⟩
            case s3 =>
              refine fun hs hlen => stepG_free [31] [3] (by kernel_rfl) rfl ?_
              · intro ac W hT hI hO
                have h31 : ac.tmps.getD 31 undef = .agg #[.int .i64 y.kind, .int .i64 y.n, .string y.name, .slice y.at_.1 y.args.length y.at_.2] := hI 31 (by simp)
                have h3 : ac.tmps.getD 3 undef = .pointer (some ⟨B1, 0, none⟩) := hO 3 (by simp)
                show Brings Try.prog (fun v w' => EndS B1 41 y wr (hs ++ [v]) w') _
                obtain rfl : hs = [] := List.eq_nil_of_length_eq_zero hlen
                replace hT : Turned (fun _ => False) wr W := hT
                have hb1 := (hT.block B1 (Array.getElem?_eq_some_iff.1 HB1.out).1 (fun f => f)).trans HB1.out
                obtain ⟨_, _, _, _, f0, f1, f2, f3⟩ := cells4 hb1
                obtain ⟨d0, d1, d2, d3, _⟩ := cells4 hb1
                simp only [execOp, Act.eval, h31, h3]
                go_simp
                exact ⟨set4 hb1, ((((hT.mono (T := fun k => k = B1) (fun _ _ f => f.elim)).setCell (p := ⟨B1, 0, none⟩) (.inr rfl) _).setCell (p := ⟨B1, 1, none⟩) (.inr rfl) _).setCell (p := ⟨B1, 2, none⟩) (.inr rfl) _).setCell (p := ⟨B1, 3, none⟩) (.inr rfl) _⟩
          case hQ =>
            intro hs vs w2 hlen hR hV
            have q5 : vs 2 = .slice va us.length vc := hV 2 (by simp)
            obtain ⟨r1, r2⟩ := end_one hlen hR
            have hF := HFIN.out vs w2 ⟨r1, r2⟩
            simp only [List.foldl_cons, List.foldl_nil, List.setIfInBounds_toArray, List.set_cons_zero, List.set_cons_succ, q5]
            clear hV q5 hlen hR
            go_wp2_with fail
            exact bodyPost_ret (results_tmp_cell Try.results47 _ _ B1 41 _ (0, 0) _ rfl r1 Try.underlying41 rfl (by kernel_rfl)) rfl hF
        · have t1 : (y.kind == 2) = true := by simp [h]
          have t2 : (y.name.toList == [46]) = false := dot_neq h'
          clear h h' hd
          go_wp2_with fail
          refine wp_region_hs [30, 31, 2] [3] [1, 0, 1, 1] [100003] (fun d v => (match d with | 30 => v = .slice va us.length vc | 31 => v = .agg #[.int .i64 y.kind, .int .i64 y.n, .string y.name, .slice y.at_.1 y.args.length y.at_.2] | 2 => v = .slice va us.length vc | _ => True : Prop)) (EndS B1 41 y wr) (by kernel_rfl) rfl (by kernel_rfl) (by kernel_rfl) (by kernel_rfl) (by kernel_rfl) (fun _ h => h) (fun hs w w' h ht => EndS.turned0 hs w w' h ht) ?hs ?hQ
          case hs =>
            refine ⟨?s0, ?s1, ?s2, ?s3, trivial⟩
            case s0 =>
              refine fun hs hle => stepG_free [] [4] (by kernel_rfl) rfl ?_
              · intro ac W hT hI hO
                have h4 : ac.tmps.getD 4 undef = .slice va us.length vc := hO 4 (by simp)
                show Brings Try.prog (fun v w' => Turned (fun _ => False) W w' ∧ v = .slice va us.length vc) _
                simp only [execOp, Act.eval, h4]
                go_simp
                try exact ⟨Turned.refl _ _, rfl⟩
            case s1 =>
              refine fun hs hle => stepG_free [] [1] (by kernel_rfl) rfl ?_
              · intro ac W hT hI hO
                have hle : hs.length ≤ 0 := hle
                have h1 : ac.tmps.getD 1 undef = .pointer (some ⟨B0, 0, none⟩) := hO 1 (by simp)
                show Brings Try.prog (fun v w' => Turned (fun _ => False) W w' ∧ v = .agg #[.int .i64 y.kind, .int .i64 y.n, .string y.name, .slice y.at_.1 y.args.length y.at_.2]) _
                have hT0 := end_nil (by omega) hT; obtain ⟨e0, e1, e2, e3, _⟩ := cells4 ((hT0.block B0 (Array.getElem?_eq_some_iff.1 HB0.out).1 (fun f => f)).trans HB0.out)
                simp only [execOp, Act.eval, h1]
                go_simp
                exact ⟨Turned.refl _ _, rfl⟩
            case s2 =>
              refine fun hs hle => stepG_free [30] [] (by kernel_rfl) rfl ?_
              · intro ac W hT hI hO
                have h30 : ac.tmps.getD 30 undef = .slice va us.length vc := hI 30 (by simp)
                show Brings Try.prog (fun v w' => Turned (fun _ => False) W w' ∧ v = .slice va us.length vc) _
                simp only [execOp, Act.eval, h30]
                go_simp
                try exact ⟨Turned.refl _ _, rfl⟩
            case s3 =>
              refine fun hs hlen => stepG_free [31] [3] (by kernel_rfl) rfl ?_
              · intro ac W hT hI hO
                have h31 : ac.tmps.getD 31 undef = .agg #[.int .i64 y.kind, .int .i64 y.n, .string y.name, .slice y.at_.1 y.args.length y.at_.2] := hI 31 (by simp)
                have h3 : ac.tmps.getD 3 undef = .pointer (some ⟨B1, 0, none⟩) := hO 3 (by simp)
                show Brings Try.prog (fun v w' => EndS B1 41 y wr (hs ++ [v]) w') _
                obtain rfl : hs = [] := List.eq_nil_of_length_eq_zero hlen
                replace hT : Turned (fun _ => False) wr W := hT
                have hb1 := (hT.block B1 (Array.getElem?_eq_some_iff.1 HB1.out).1 (fun f => f)).trans HB1.out
                obtain ⟨_, _, _, _, f0, f1, f2, f3⟩ := cells4 hb1
                obtain ⟨d0, d1, d2, d3, _⟩ := cells4 hb1
                simp only [execOp, Act.eval, h31, h3]
                go_simp
                exact ⟨set4 hb1, ((((hT.mono (T := fun k => k = B1) (fun _ _ f => f.elim)).setCell (p := ⟨B1, 0, none⟩) (.inr rfl) _).setCell (p := ⟨B1, 1, none⟩) (.inr rfl) _).setCell (p := ⟨B1, 2, none⟩) (.inr rfl) _).setCell (p := ⟨B1, 3, none⟩) (.inr rfl) _⟩
          case hQ =>
            intro hs vs w2 hlen hR hV
            have q5 : vs 2 = .slice va us.length vc := hV 2 (by simp)
            obtain ⟨r1, r2⟩ := end_one hlen hR
            have hF := HFIN.out vs w2 ⟨r1, r2⟩
            simp only [List.foldl_cons, List.foldl_nil, List.setIfInBounds_toArray, List.set_cons_zero, List.set_cons_succ, q5]
            clear hV q5 hlen hR
            go_wp2_with fail
            exact bodyPost_ret (results_tmp_cell Try.results47 _ _ B1 41 _ (0, 0) _ rfl r1 Try.underlying41 rfl (by kernel_rfl)) rfl hF
        · have t1 : (y.kind == 2) = true := by simp [h]
          have t2 : (y.name.toList == [46]) = true := dot_eq h'
          have t3 : ((y.args.length : Int) == 2) = false := by simp; omega
          clear h h' h'' hd
          go_wp2_with fail
          refine wp_region_hs [30, 31, 2] [3] [1, 0, 1, 1] [100003] (fun d v => (match d with | 30 => v = .slice va us.length vc | 31 => v = .agg #[.int .i64 y.kind, .int .i64 y.n, .string y.name, .slice y.at_.1 y.args.length y.at_.2] | 2 => v = .slice va us.length vc | _ => True : Prop)) (EndS B1 41 y wr) (by kernel_rfl) rfl (by kernel_rfl) (by kernel_rfl) (by kernel_rfl) (by kernel_rfl) (fun _ h => h) (fun hs w w' h ht => EndS.turned0 hs w w' h ht) ?hs ?hQ
          case hs =>
            refine ⟨?s0, ?s1, ?s2, ?s3, trivial⟩
            case s0 =>
              refine fun hs hle => stepG_free [] [4] (by kernel_rfl) rfl ?_
              · intro ac W hT hI hO
                have h4 : ac.tmps.getD 4 undef = .slice va us.length vc := hO 4 (by simp)
                show Brings Try.prog (fun v w' => Turned (fun _ => False) W w' ∧ v = .slice va us.length vc) _
                simp only [execOp, Act.eval, h4]
                go_simp
                try exact ⟨Turned.refl _ _, rfl⟩
            case s1 =>
              refine fun hs hle => stepG_free [] [1] (by kernel_rfl) rfl ?_
              · intro ac W hT hI hO
                have hle : hs.length ≤ 0 := hle
                have h1 : ac.tmps.getD 1 undef = .pointer (some ⟨B0, 0, none⟩) := hO 1 (by simp)
                show Brings Try.prog (fun v w' => Turned (fun _ => False) W w' ∧ v = .agg #[.int .i64 y.kind, .int .i64 y.n, .string y.name, .slice y.at_.1 y.args.length y.at_.2]) _
                have hT0 := end_nil (by omega) hT; obtain ⟨e0, e1, e2, e3, _⟩ := cells4 ((hT0.block B0 (Array.getElem?_eq_some_iff.1 HB0.out).1 (fun f => f)).trans HB0.out)
                simp only [execOp, Act.eval, h1]
                go_simp
                exact ⟨Turned.refl _ _, rfl⟩
            case s2 =>
              refine fun hs hle => stepG_free [30] [] (by kernel_rfl) rfl ?_
              · intro ac W hT hI hO
                have h30 : ac.tmps.getD 30 undef = .slice va us.length vc := hI 30 (by simp)
                show Brings Try.prog (fun v w' => Turned (fun _ => False) W w' ∧ v = .slice va us.length vc) _
                simp only [execOp, Act.eval, h30]
                go_simp
                try exact ⟨Turned.refl _ _, rfl⟩
            case s3 =>
              refine fun hs hlen => stepG_free [31] [3] (by kernel_rfl) rfl ?_
              · intro ac W hT hI hO
                have h31 : ac.tmps.getD 31 undef = .agg #[.int .i64 y.kind, .int .i64 y.n, .string y.name, .slice y.at_.1 y.args.length y.at_.2] := hI 31 (by simp)
                have h3 : ac.tmps.getD 3 undef = .pointer (some ⟨B1, 0, none⟩) := hO 3 (by simp)
                show Brings Try.prog (fun v w' => EndS B1 41 y wr (hs ++ [v]) w') _
                obtain rfl : hs = [] := List.eq_nil_of_length_eq_zero hlen
                replace hT : Turned (fun _ => False) wr W := hT
                have hb1 := (hT.block B1 (Array.getElem?_eq_some_iff.1 HB1.out).1 (fun f => f)).trans HB1.out
                obtain ⟨_, _, _, _, f0, f1, f2, f3⟩ := cells4 hb1
                obtain ⟨d0, d1, d2, d3, _⟩ := cells4 hb1
                simp only [execOp, Act.eval, h31, h3]
                go_simp
                exact ⟨set4 hb1, ((((hT.mono (T := fun k => k = B1) (fun _ _ f => f.elim)).setCell (p := ⟨B1, 0, none⟩) (.inr rfl) _).setCell (p := ⟨B1, 1, none⟩) (.inr rfl) _).setCell (p := ⟨B1, 2, none⟩) (.inr rfl) _).setCell (p := ⟨B1, 3, none⟩) (.inr rfl) _⟩
          case hQ =>
            intro hs vs w2 hlen hR hV
            have q5 : vs 2 = .slice va us.length vc := hV 2 (by simp)
            obtain ⟨r1, r2⟩ := end_one hlen hR
            have hF := HFIN.out vs w2 ⟨r1, r2⟩
            simp only [List.foldl_cons, List.foldl_nil, List.setIfInBounds_toArray, List.set_cons_zero, List.set_cons_succ, q5]
            clear hV q5 hlen hR
            go_wp2_with fail
            exact bodyPost_ret (results_tmp_cell Try.results47 _ _ B1 41 _ (0, 0) _ rfl r1 Try.underlying41 rfl (by kernel_rfl)) rfl hF
end Go.Proofs.Ytoihjobdfjajfaa

/- term.Items. -/
namespace Go.Proofs.Ytoihjobdfjajfaa
set_option linter.unusedVariables false
set_option linter.unusedSimpArgs false
open Go.RowKit

set_option maxRecDepth 100000 in
set_option maxHeartbeats 3200000 in
theorem items46 {p : Nat → Prop} {t : LT} {w : World} (ht : t.In p w) (hsl : slim t) (hsz : True) :
    Calls Try.prog 46 #[t.val] w fun e w' => ∃ (v : Value) (us : List LT) (y : LT), e = .returned (.tuple #[v, y.val]) ∧ (us, y) = (if goodB t then Tm.items t else ([], t)) ∧ Row w' 27 4 v us.length (us.flatMap LT.cells) ∧ (∀ b, v.ownBlock = some b → w.heap.size ≤ b) ∧ Turned (fun _ => False) w w' := by
  obtain ⟨i0, hi0, hz0, hz1, hz2⟩ := info_parts infoT
  have HIN := Lib.hid ht
  have HSZ := Lib.hid hsz
  have h2 := two w (.cells #[.int .i64 t.kind, .int .i64 t.n, .string t.name, .slice t.at_.1 t.args.length t.at_.2] 27) (.cells #[.int .i64 0, .int .i64 0, .string ⟨#[]⟩, .slice none 0 0] 27)
  obtain ⟨RS, HRS⟩ : ∃ z, Hid (z = if goodB t then Tm.items t else ([], t)) := ⟨_, rfl⟩
  rw [← HRS.out]
  have hg0 := good38 (ht.turned0 h2.1) hsl
  have HG := Lib.hid hg0
  rw [LT.val_eq] at HG ⊢
  clear hg0
  have H2 := Lib.hid h2
  clear h2 ht hsz
  cases hg : goodB t with
  | false =>
    rw [hg] at HG
    have HGF := Lib.hid hg
    clear hg
    go_enter Try.func46, Try.ntmps46
    go_wp2_with (go_at_call 38; refine HG.out.mono ?_; rintro e w1 ⟨rfl, T1⟩)
    have HB0 : Hid (w1.heap[w.heap.size]? = some (.cells #[.int .i64 t.kind, .int .i64 t.n, .string t.name, .slice t.at_.1 t.args.length t.at_.2] 27 (0, 0))) := (T1.block _ (by have := H2.out.2.1; omega) (fun f => f)).trans H2.out.2.2.1
    have HB1 : Hid (w1.heap[w.heap.size + 1]? = some (.cells #[.int .i64 0, .int .i64 0, .string ⟨#[]⟩, .slice none 0 0] 27 (0, 0))) := (T1.block _ (by have := H2.out.2.1; omega) (fun f => f)).trans H2.out.2.2.2
    have HT1 := Lib.hid (H2.out.1.trans T1)
    clear T1 H2
    obtain ⟨B0, hB0⟩ : ∃ z, z = w.heap.size := ⟨_, rfl⟩
    obtain ⟨B1, hB1⟩ : ∃ z, z = w.heap.size + 1 := ⟨_, rfl⟩
    rw [← hB1] at HB1
    rw [← hB0] at HB0
    have HE := Lib.hid (And.intro hB0 hB1)
    try rw [← hB1]
    try rw [← hB0]
    clear hB0 hB1
    refine wp_region_hs [7, 2] [2] [0, 1, 1] [100002] (fun d v => (match d with | 7 => v = .agg #[.int .i64 t.kind, .int .i64 t.n, .string t.name, .slice t.at_.1 t.args.length t.at_.2] | 2 => v = .slice none 0 0 | _ => True : Prop)) (EndS B1 27 t w1) (by kernel_rfl) rfl (by kernel_rfl) (by kernel_rfl) (by kernel_rfl) (by kernel_rfl) (fun _ h => h) (fun hs w w' h ht => EndS.turned0 hs w w' h ht) ?hs ?hQ
    case hs =>
      refine ⟨?s0, ?s1, ?s2, trivial⟩
      case s0 =>
        refine fun hs hle => stepG_free [] [1] (by kernel_rfl) rfl ?_
        · intro ac W hT hI hO
          have hle : hs.length ≤ 0 := hle
          have h1 : ac.tmps.getD 1 undef = .pointer (some ⟨B0, 0, none⟩) := hO 1 (by simp)
          show Brings Try.prog (fun v w' => Turned (fun _ => False) W w' ∧ v = .agg #[.int .i64 t.kind, .int .i64 t.n, .string t.name, .slice t.at_.1 t.args.length t.at_.2]) _
          have hT0 := end_nil (by omega) hT; obtain ⟨e0, e1, e2, e3, _⟩ := cells4 ((hT0.block B0 (Array.getElem?_eq_some_iff.1 HB0.out).1 (fun f => f)).trans HB0.out)
          simp only [execOp, Act.eval, h1]
          go_simp
          exact ⟨Turned.refl _ _, rfl⟩
      case s1 =>
        refine fun hs hle => stepG_free [] [] (by kernel_rfl) rfl ?_
        · intro ac W hT hI hO
          show Brings Try.prog (fun v w' => Turned (fun _ => False) W w' ∧ v = .slice none 0 0) _
          simp only [execOp, Act.eval]
          go_simp
          try exact ⟨Turned.refl _ _, rfl⟩
      case s2 =>
        refine fun hs hlen => stepG_free [7] [3] (by kernel_rfl) rfl ?_
        · intro ac W hT hI hO
          have h7 : ac.tmps.getD 7 undef = .agg #[.int .i64 t.kind, .int .i64 t.n, .string t.name, .slice t.at_.1 t.args.length t.at_.2] := hI 7 (by simp)
          have h3 : ac.tmps.getD 3 undef = .pointer (some ⟨B1, 0, none⟩) := hO 3 (by simp)
          show Brings Try.prog (fun v w' => EndS B1 27 t w1 (hs ++ [v]) w') _
          obtain rfl : hs = [] := List.eq_nil_of_length_eq_zero hlen
          replace hT : Turned (fun _ => False) w1 W := hT
          have hb1 := (hT.block B1 (Array.getElem?_eq_some_iff.1 HB1.out).1 (fun f => f)).trans HB1.out
          obtain ⟨_, _, _, _, f0, f1, f2, f3⟩ := cells4 hb1
          obtain ⟨d0, d1, d2, d3, _⟩ := cells4 hb1
          simp only [execOp, Act.eval, h7, h3]
          go_simp
          exact ⟨set4 hb1, ((((hT.mono (T := fun k => k = B1) (fun _ _ f => f.elim)).setCell (p := ⟨B1, 0, none⟩) (.inr rfl) _).setCell (p := ⟨B1, 1, none⟩) (.inr rfl) _).setCell (p := ⟨B1, 2, none⟩) (.inr rfl) _).setCell (p := ⟨B1, 3, none⟩) (.inr rfl) _⟩
    case hQ =>
      intro hs vs w2 hlen hR hV
      have q5 : vs 2 = .slice none 0 0 := hV 2 (by simp)
      obtain ⟨r1, r2⟩ := end_one hlen hR
      simp only [List.foldl_cons, List.foldl_nil, List.setIfInBounds_toArray, List.set_cons_zero, List.set_cons_succ, q5]
      clear hV q5 hlen hR
      go_wp2_with fail
      refine bodyPost_ret (results_tmp_cell Try.results46 _ _ B1 27 _ (0, 0) _ rfl r1 Try.underlying27 rfl (by kernel_rfl)) rfl ?_
      refine ⟨.slice none 0 0, [], t, by rw [LT.val_eq]; rfl, by rw [HRS.out, HGF.out]; rfl, Row.nil _ _ _, fun b hb => by simp [Value.ownBlock] at hb, HT1.out.step r2 (fun i hi e => by have := HE.out; omega)⟩
  | true =>
    rw [hg] at HG
    rw [hg, if_pos rfl] at HRS
    replace HSZ : Hid (t.depth ≤ 60000) := by show _ ≤ _; have := good_depth hg; omega
    clear hg
    go_enter Try.func46, Try.ntmps46
    go_wp2_with (go_at_call 38; refine HG.out.mono ?_; rintro e w1 ⟨rfl, T1⟩; obtain ⟨y0, y1, y2, y3, _⟩ := cells4 ((T1.block _ (by have := H2.out.2.1; omega) (fun f => f)).trans H2.out.2.2.1))
    clear y0 y1 y2 y3
    replace H2 : Hid (Turned (fun _ => False) w w1 ∧ w.heap.size + 2 ≤ w1.heap.size ∧ w1.heap[w.heap.size]? = some (.cells #[.int .i64 t.kind, .int .i64 t.n, .string t.name, .slice t.at_.1 t.args.length t.at_.2] 27 (0, 0)) ∧ w1.heap[w.heap.size + 1]? = some (.cells #[.int .i64 0, .int .i64 0, .string ⟨#[]⟩, .slice none 0 0] 27 (0, 0))) := ⟨H2.out.1.trans T1, by have := H2.out.2.1; have := T1.size; omega, (T1.block _ (by have := H2.out.2.1; omega) (fun f => f)).trans H2.out.2.2.1, (T1.block _ (by have := H2.out.2.1; omega) (fun f => f)).trans H2.out.2.2.2⟩
    clear T1
    obtain ⟨B0, hB0⟩ : ∃ z, z = w.heap.size := ⟨_, rfl⟩
    obtain ⟨B1, hB1⟩ : ∃ z, z = w.heap.size + 1 := ⟨_, rfl⟩
    obtain ⟨N, hN⟩ : ∃ z, z = w1.heap.size := ⟨_, rfl⟩
    rw [← hB1, ← hB0] at H2
    have HE := Lib.hid (And.intro hB0 (And.intro hB1 hN))
    try rw [← hB1]
    try rw [← hB0]
    clear hB0 hB1 hN
    have hinit : Hid (ItemI p N B0 27 t w1 t.size (.slice none 0 0) [] t w1) := ⟨rfl, by simp, by rw [Tm.flat_eq]; exact List.mem_cons_self .., H2.out.2.2.1, Row.nil _ _ _, fun b h => by simp [Value.ownBlock] at h, Turned.refl _ _⟩
    go_loopg [2] t.size (fun g v wr => ∃ us y, Hid (ItemI p N B0 27 t w1 g v us y wr))
    case atStart => exact ⟨[], t, hinit⟩
    case round =>
      obtain ⟨us, y, HI⟩ := hrel
      obtain ⟨va, vc, rfl⟩ := HI.out.row.shape
      have hvl := HI.out.row.max
      have hul : us.length ≤ 60000 := by
        have h1 := items_dep t.size t (Nat.le_refl _)
        rw [HI.out.items] at h1
        simp only [List.length_append] at h1
        have := HSZ.out
        omega
      have hyin : y.In (fun k => p k ∧ k < w.heap.size) wr := LT.In.flat t (LT.In.turned (H2.out.1.step (T := fun k => k = B0) HI.out.turned (fun i hi e => by have := HE.out; omega)) (fun _ _ _ f => f) (fun k hk h => ⟨h, hk⟩) t HIN.out) y HI.out.mem
      obtain ⟨q0, q1, q2, q3, f0, f1, f2, f3⟩ := cells4 HI.out.blk
      have hal : y.args.length ≤ 9223372036854775807 := by have := hyin.len.1; have := hyin.len.2.1; unfold maxLen at this; omega
      cases hd : Tm.isDot y with
      | true =>
        obtain ⟨e1, e2, e3⟩ := isDot_facts hd
        obtain ⟨x, z, hxz, _⟩ : ∃ x z : LT, y.args = [x, z] ∧ Tm.items y = (x :: (Tm.items z).1, (Tm.items z).2) ∧ z.size < y.size := Tm.items_dot hd
        have hl := hyin.lies
        rw [hxz] at hl
        obtain ⟨b, o, ha, hpb, x0, x1, x2, x3, z0, z1, z2, z3⟩ := lies2 hl
        rw [e1] at q0
        rw [e2] at q2
        rw [e3, ha] at q3
        unfold Tm.dot at q2
        have HK : Hid (∀ W, Turned (fun k => (Value.slice va us.length vc).ownBlock = some k) (wr.alloc (.cells #[.int .i64 x.kind, .int .i64 x.n, .string x.name, .slice x.at_.1 x.args.length x.at_.2] 27)) W → (W.cell? ⟨B0, 3, none⟩ = some (.slice (some ⟨b, o, none⟩) 2 y.at_.2) ∧ W.cell? ⟨B0, 0, none⟩ = some (.int .i64 2) ∧ W.cell? ⟨B0, 1, none⟩ = some (.int .i64 y.n) ∧ W.cell? ⟨B0, 2, none⟩ = some (.string ⟨#[46]⟩)) ∧ (W.frozen? ⟨B0, 0, none⟩ = false ∧ W.frozen? ⟨B0, 1, none⟩ = false ∧ W.frozen? ⟨B0, 2, none⟩ = false ∧ W.frozen? ⟨B0, 3, none⟩ = false) ∧ W.cell? ⟨b, o + 4, none⟩ = some (.int .i64 z.kind) ∧ W.cell? ⟨b, o + 5, none⟩ = some (.int .i64 z.n) ∧ W.cell? ⟨b, o + 6, none⟩ = some (.string z.name) ∧ W.cell? ⟨b, o + 7, none⟩ = some (.slice z.at_.1 z.args.length z.at_.2)) := fun W h => by
          have h' : Turned (fun k => (Value.slice va us.length vc).ownBlock = some k) wr W := ((Turned.refl _ wr).alloc _).trans h
          have hn0 : ¬ (Value.slice va us.length vc).ownBlock = some B0 := fun e => by have := HI.out.own _ e; have := HE.out; have := H2.out.2.1; omega
          have hnb : ¬ (Value.slice va us.length vc).ownBlock = some b := fun e => by have := HI.out.own _ e; have := HE.out; have := H2.out.2.1; omega
          have hbl := (h'.block B0 (Array.getElem?_eq_some_iff.1 HI.out.blk).1 hn0).trans HI.out.blk
          obtain ⟨_, _, _, _, g0, g1, g2, g3⟩ := cells4 hbl
          exact ⟨⟨h'.cell q3 hn0, h'.cell q0 hn0, h'.cell q1 hn0, h'.cell q2 hn0⟩, ⟨g0, g1, g2, g3⟩, h'.cell z0 hnb, h'.cell z1 hnb, h'.cell z2 hnb, h'.cell z3 hnb⟩
        have HDD := Lib.hid hd
        have HXZ := Lib.hid hxz
        have HBN : Hid (B0 < N ∧ w1.heap.size = N) := ⟨by have := HE.out; have := H2.out.2.1; omega, by have := HE.out; omega⟩
        clear hl ha hpb hd hxz e1 e2 e3 hyin z0 z1 z2 z3
        go_wp2_with (at_builtin; refine append_some _ rfl _ _ 22 rfl 27 i0 zeroT 4 56 Try.underlying22 hi0 hz0 hz1 hz2 rfl (by decide) _ _ _ rfl (HI.out.row.alloc (.cells #[.int .i64 x.kind, .int .i64 x.n, .string x.name, .slice x.at_.1 x.args.length x.at_.2] 27)) ⟨wr.heap.size, 0, none⟩ 1 1 x.cells rfl (LT.cells_length x) (news_cells x (heap_alloc_new wr _)) (LT.cells_one x) (by omega) (by unfold maxLen; omega) (by omega) ?_; intro g5 cap5 w5 hown5 hg5 hloc5; obtain ⟨⟨r3, r0, r1, r2⟩, ⟨f0, f1, f2, f3⟩, z0, z1, z2, z3⟩ := HK.out _ hg5)
        obtain ⟨n1, n2⟩ := item_next HI.out HDD.out HXZ.out HBN.out.1 HBN.out.2 hown5 hg5 hloc5
        go_roundg z.size
        case measure => exact n2
        case rel => exact ⟨us ++ [x], z, n1⟩
      | false =>
        have HRES : Hid (Tm.items t = (us, y)) := by
          show _ = _
          rw [HI.out.items, Tm.items_end hd, List.append_nil]
        have HB0 := Lib.hid HI.out.blk
        have HB1 : Hid (wr.heap[B1]? = some (.cells #[.int .i64 0, .int .i64 0, .string ⟨#[]⟩, .slice none 0 0] 27 (0, 0))) := (HI.out.turned.block B1 (Array.getElem?_eq_some_iff.1 H2.out.2.2.2).1 (fun e => by have := HE.out; omega)).trans H2.out.2.2.2
        have hfin : ∀ (vs : Tmp → Value) (W : World), EndS B1 27 y wr [undef] W → ∃ v us2 y2, Ending.returned (.tuple #[.slice va us.length vc, .agg #[.int .i64 y.kind, .int .i64 y.n, .string y.name, .slice y.at_.1 y.args.length y.at_.2]]) = .returned (.tuple #[v, LT.val y2]) ∧ (us2, y2) = RS ∧ Row W 27 4 v us2.length (us2.flatMap LT.cells) ∧ (∀ b, v.ownBlock = some b → w.heap.size ≤ b) ∧ Turned (fun _ => False) w W := by
          intro vs W hE
          have hne : ∀ k, (Value.slice va us.length vc).ownBlock = some k → ¬ k = B1 := fun k e e' => by have := HI.out.own _ e; have := HE.out; have := H2.out.2.1; omega
          refine ⟨_, us, y, by rw [LT.val_eq], (HRS.out.trans HRES.out).symm, HI.out.row.turned hE.2 hne, fun b hb => ?_, ?_⟩
          · have := HI.out.own b hb; have := HE.out; have := H2.out.2.1; omega
          · exact (H2.out.1.step HI.out.turned (fun i hi e => by have := HE.out; omega)).step hE.2 (fun i hi e => by have := HE.out; omega)
        have HFIN := Lib.hid hfin
        clear hfin hyin
        rcases isDot_no hd with h | ⟨h, h'⟩ | ⟨h, h', h''⟩
        · have t1 : (y.kind == 2) = false := by simp [h]
          clear h hd
          go_wp2_with fail
          obtain ⟨d0, d1, d2, d3, f0, f1, f2, f3⟩ := cells4 HB1.out
          obtain ⟨q0, q1, q2, q3, _⟩ := cells4 HB0.out
          have hF := HFIN.out (fun _ => undef) ((((((wr.setCell ⟨B1, 0, none⟩ (.int .i64 y.kind)).setCell ⟨B1, 1, none⟩ (.int .i64 y.n)).setCell ⟨B1, 2, none⟩ (.string y.name)).setCell ⟨B1, 3, none⟩ (.slice y.at_.1 y.args.length y.at_.2))).drew) ⟨set4 HB1.out, (((((Turned.refl (fun k => k = B1) wr).setCell (p := ⟨B1, 0, none⟩) (.inr rfl) _).setCell (p := ⟨B1, 1, none⟩) (.inr rfl) _).setCell (p := ⟨B1, 2, none⟩) (.inr rfl) _).setCell (p := ⟨B1, 3, none⟩) (.inr rfl) _).drew⟩
          go_region
          all_goals
            go_ways
            go_wp2_with fail
            exact bodyPost_ret (results_tmp_cell Try.results46 _ _ B1 27 _ (0, 0) _ rfl (set4 HB1.out) Try.underlying27 rfl (by kernel_rfl)) rfl hF
        · have t1 : (y.kind == 2) = true := by simp [h]
          have t2 : (y.name.toList == [46]) = false := dot_neq h'
          clear h h' hd
          go_wp2_with fail
          obtain ⟨d0, d1, d2, d3, f0, f1, f2, f3⟩ := cells4 HB1.out
          obtain ⟨q0, q1, q2, q3, _⟩ := cells4 HB0.out
          have hF := HFIN.out (fun _ => undef) ((((((wr.setCell ⟨B1, 0, none⟩ (.int .i64 y.kind)).setCell ⟨B1, 1, none⟩ (.int .i64 y.n)).setCell ⟨B1, 2, none⟩ (.string y.name)).setCell ⟨B1, 3, none⟩ (.slice y.at_.1 y.args.length y.at_.2))).drew) ⟨set4 HB1.out, (((((Turned.refl (fun k => k = B1) wr).setCell (p := ⟨B1, 0, none⟩) (.inr rfl) _).setCell (p := ⟨B1, 1, none⟩) (.inr rfl) _).setCell (p := ⟨B1, 2, none⟩) (.inr rfl) _).setCell (p := ⟨B1, 3, none⟩) (.inr rfl) _).drew⟩
          go_region
          all_goals
            go_ways
            go_wp2_with fail
            exact bodyPost_ret (results_tmp_cell Try.results46 _ _ B1 27 _ (0, 0) _ rfl (set4 HB1.out) Try.underlying27 rfl (by kernel_rfl)) rfl hF
        · have t1 : (y.kind == 2) = true := by simp [h]
          have t2 : (y.name.toList == [46]) = true := dot_eq h'
          have t3 : ((y.args.length : Int) == 2) = false := by simp; omega
          clear h h' h'' hd
          go_wp2_with fail
          obtain ⟨d0, d1, d2, d3, f0, f1, f2, f3⟩ := cells4 HB1.out
          obtain ⟨q0, q1, q2, q3, _⟩ := cells4 HB0.out
          have hF := HFIN.out (fun _ => undef) ((((((wr.setCell ⟨B1, 0, none⟩ (.int .i64 y.kind)).setCell ⟨B1, 1, none⟩ (.int .i64 y.n)).setCell ⟨B1, 2, none⟩ (.string y.name)).setCell ⟨B1, 3, none⟩ (.slice y.at_.1 y.args.length y.at_.2))).drew) ⟨set4 HB1.out, (((((Turned.refl (fun k => k = B1) wr).setCell (p := ⟨B1, 0, none⟩) (.inr rfl) _).setCell (p := ⟨B1, 1, none⟩) (.inr rfl) _).setCell (p := ⟨B1, 2, none⟩) (.inr rfl) _).setCell (p := ⟨B1, 3, none⟩) (.inr rfl) _).drew⟩
          go_region
          all_goals
            go_ways
            go_wp2_with fail
            exact bodyPost_ret (results_tmp_cell Try.results46 _ _ B1 27 _ (0, 0) _ rfl (set4 HB1.out) Try.underlying27 rfl (by kernel_rfl)) rfl hF
end Go.Proofs.Ytoihjobdfjajfaa

/- A region that draws its order: the operations that turn the state come up in ANY order; the state knows which have been and what they brought. -/
namespace Go.Proofs.Ytoihjobdfjajfaa
open Go
/-- Which operation writes a slot, of those that turn the state. -/
def slotOp : List (Tmp × Nat) → Tmp → Option Nat
  | [], _ => none
  | (s, i) :: l, d => if s == d then some i else slotOp l d
def GK (hist : List (Tmp × Nat)) (GL : Tmp → Value → Prop) (hs : List (Nat × Value)) (d : Tmp) (v : Value) : Prop :=
  match slotOp hist d with
  | some i => (i, v) ∈ hs
  | none => GL d v
def StepK (P : Program) (hist : List (Tmp × Nat)) (GL : Tmp → Value → Prop) (ops : Array Oper) (a0 : Act) (st : List Nat) (R : List (Nat × Value) → World → Prop) (i : Nat) (o : Oper) : Prop :=
  match st.contains i with
  | false => ∀ hs, (∀ j n v, waits ops n j i = true → (j, v) ∉ hs) → StepG P (fun d v _ => GK hist GL hs d v) ops a0 (R hs) (fun v w w' => Turned (fun _ => False) w w' ∧ GDL GL o.dst v) o
  | true => ∀ hs, (∀ v, (i, v) ∉ hs) → (∀ j n v, waits ops n j i = true → (j, v) ∉ hs) → StepG P (fun d v _ => GK hist GL hs d v) ops a0 (R hs) (fun v _ w' => R (hs ++ [(i, v)]) w') o
def StepsK (P : Program) (hist : List (Tmp × Nat)) (GL : Tmp → Value → Prop) (ops : Array Oper) (a0 : Act) (st : List Nat) (R : List (Nat × Value) → World → Prop) : Nat → List Oper → Prop
  | _, [] => True
  | i, o :: l => StepK P hist GL ops a0 st R i o ∧ StepsK P hist GL ops a0 st R (i + 1) l
theorem StepsK.at {P : Program} {hist : List (Tmp × Nat)} {GL : Tmp → Value → Prop} {ops : Array Oper} {a0 : Act} {st : List Nat} {R : List (Nat × Value) → World → Prop} {l : List Oper} {b : Nat} (h : StepsK P hist GL ops a0 st R b l) {j : Nat} {o : Oper} (ho : l[j]? = some o) : StepK P hist GL ops a0 st R (b + j) o := by
  induction l generalizing b j with
  | nil => simp at ho
  | cons x l ih =>
    cases j with
    | zero => simp at ho; subst ho; exact h.1
    | succ j =>
      simp at ho
      have := ih h.2 ho
      rwa [show b + 1 + j = b + (j + 1) from by omega] at this
def chkK (ops : Array Oper) (st : List Nat) (hist : List (Tmp × Nat)) : Bool :=
  st.all (fun i => decide (i < ops.size)) && (List.range ops.size).all fun i => match ops[i]? with
    | none => true
    | some o => match o.dst with
      | none => true
      | some d => match st.contains i with
        | true => slotOp hist d == some i
        | false => slotOp hist d == none
structure InvK (ops : Array Oper) (st : List Nat) (R : List (Nat × Value) → World → Prop) (listed : Array Bool) (hs : List (Nat × Value)) (w : World) : Prop where
  state : R hs w
  keys : ∀ i, i ∈ st → (listed.getD i false = true ↔ ∃ v, (i, v) ∈ hs)
  sub : ∀ i v, (i, v) ∈ hs → i ∈ st
  uniq : ∀ i v v', (i, v) ∈ hs → (i, v') ∈ hs → v = v'
  shut : ∀ j o, ops[j]? = some o → listed.getD j false = true → ∀ e ∈ o.after, Region.binds .any e = true → listed.getD e.on false = true
section
variable {P : Program} {hist : List (Tmp × Nat)} {GL : Tmp → Value → Prop} {ops : Array Oper} {a0 : Act} {w0 : World} {Q : Exit → Act → World → Prop} {st : List Nat} {R : List (Nat × Value) → World → Prop}
theorem unlisted {listed : Array Bool} {i : Nat} (h : i ∈ Region.ready .any ops listed) : listed.getD i false = false := by
  obtain ⟨hf, _⟩ := mem_ready.1 h
  have hf' := hf
  simp only [Array.getD_eq_getD_getElem?] at hf' ⊢
  cases h : listed[i]? with
  | none => rfl
  | some b => rw [h] at hf'; simpa using hf'
theorem InvK.later {listed : Array Bool} {hs : List (Nat × Value)} {w : World} (h : InvK ops st R listed hs w) {i : Nat} (hr : i ∈ Region.ready .any ops listed) : ∀ j n v, waits ops n j i = true → (j, v) ∉ hs := by
  intro j n v hw hm
  have h1 := (h.keys j (h.sub j v hm)).2 ⟨v, hm⟩
  have h2 := waits_listed h.shut n j i hw h1
  rw [unlisted hr] at h2
  cases h2
theorem InvK.not {listed : Array Bool} {hs : List (Nat × Value)} {w : World} (h : InvK ops st R listed hs w) {i : Nat} (hr : i ∈ Region.ready .any ops listed) : ∀ v, (i, v) ∉ hs := by
  intro v hm
  have h1 := (h.keys i (h.sub i v hm)).2 ⟨v, hm⟩
  rw [unlisted hr] at h1
  cases h1
theorem k_go (hc : chkAny ops a0.tmps.size = true) (hk : chkK ops st hist = true) (hRt : ∀ hs w w', R hs w → Turned (fun _ => False) w w' → R hs w') (hs : StepsK P hist GL ops a0 st R 0 ops.toList)
    (hQ : ∀ hs a w, (∀ i ∈ st, ∃ v, (i, v) ∈ hs) → (∀ i v v', (i, v) ∈ hs → (i, v') ∈ hs → v = v') → R hs w → (∀ s, Looks (fun d v _ => GK hist GL hs d v) ops a0 a w s) → a.defers = a0.defers → a.tmps.size = a0.tmps.size → Q .normal a w) :
    ∀ (fuel : Nat) (listed : Array Bool) (a : Act) (w : World) (hs : List (Nat × Value)), listed.toList.count false ≤ fuel → InvK ops st R listed hs w → InvA (fun d v _ => GK hist GL hs d v) ops a0 a listed w → wpAny P .any ops Q fuel listed a w := by
  have hk1 : ∀ i ∈ st, i < ops.size := by
    simp only [chkK, Bool.and_eq_true, List.all_eq_true] at hk
    intro i hi
    simpa using hk.1 i hi
  have hk2 : ∀ i o d, ops[i]? = some o → o.dst = some d → slotOp hist d = (match st.contains i with | true => some i | false => none) := by
    intro i o d ho hd
    simp only [chkK, Bool.and_eq_true, List.all_eq_true] at hk
    have := hk.2 i (List.mem_range.2 (Array.getElem?_eq_some_iff.1 ho).1)
    rw [ho] at this
    simp only [hd] at this
    cases hp : st.contains i with
    | true => rw [hp] at this; simpa using this
    | false => rw [hp] at this; simpa using this
  intro fuel
  have hend : ∀ (listed : Array Bool) (a : Act) (w : World) (hs : List (Nat × Value)), InvK ops st R listed hs w → InvA (fun d v _ => GK hist GL hs d v) ops a0 a listed w → Region.ready .any ops listed = [] → Q .normal a w := by
    intro listed a w hs hT hI hr
    have hall := all_listed hc hI.lsize hr
    refine hQ hs a w (fun i hi => (hT.keys i hi).1 (hall i (hk1 i hi))) hT.uniq hT.state (fun s => ?_) hI.defers hI.size
    unfold Looks
    split
    · rename_i hm
      obtain ⟨oj, hoj, hd⟩ := List.mem_filterMap.1 hm
      obtain ⟨j, hj⟩ := List.getElem?_of_mem hoj
      rw [Array.getElem?_toList] at hj
      exact hI.done j oj s hj hd (hall j (Array.getElem?_eq_some_iff.1 hj).1)
    · rename_i hm
      refine hI.rest s fun j oj hj hd => absurd (List.mem_filterMap.2 ⟨oj, ?_, hd⟩) hm
      exact List.mem_of_getElem? (by rw [Array.getElem?_toList]; exact hj)
  induction fuel with
  | zero =>
    intro listed a w hs' hf hT hI
    have hr : Region.ready .any ops listed = [] := by
      apply List.eq_nil_iff_forall_not_mem.2
      intro i hi
      obtain ⟨hfalse, o, ho, _⟩ := mem_ready.1 hi
      have hlt : i < listed.size := by rw [hI.lsize]; exact (Array.getElem?_eq_some_iff.1 ho).1
      simp [hlt] at hfalse
      have : false ∈ listed.toList := by rw [← hfalse]; exact Array.getElem_mem_toList hlt
      have := List.count_pos_iff.2 this
      omega
    exact ⟨hr, hend _ _ _ _ hT hI hr⟩
  | succ fuel ih =>
    intro listed a w hs' hf hT hI
    refine ⟨hend _ _ _ _ hT hI, fun i hi => ?_⟩
    obtain ⟨hfalse, o, ho, _⟩ := mem_ready.1 hi
    have hlt : i < listed.size := by rw [hI.lsize]; exact (Array.getElem?_eq_some_iff.1 ho).1
    have hcnt : (listed.setIfInBounds i true).toList.count false ≤ fuel := by
      have h1 : listed.toList[i]? = some false := by
        simp [hlt] at hfalse
        rw [Array.getElem?_toList, Array.getElem?_eq_getElem hlt, hfalse]
      have := count_set h1
      rw [Array.toList_setIfInBounds]
      omega
    have hst1 := hs.at (j := i) (o := o) (by rw [Array.getElem?_toList]; exact ho)
    rw [Nat.zero_add] at hst1
    unfold wpOp
    simp only [ho]
    unfold StepK at hst1
    have hli : (listed.setIfInBounds i true).getD i false = true := by simp [hlt]
    cases hp : st.contains i with
    | false =>
      rw [hp] at hst1
      have hni : i ∉ st := by intro e; rw [← List.contains_iff_mem, hp] at e; cases e
      have hst2 := hst1 hs' (hT.later hi) a w hT.state (hI.looks hc ho hi)
      have hg : ∀ v, GDL GL o.dst v → ∀ w', GD (fun d v _ => GK hist GL hs' d v) o.dst v w' := by
        intro v hv w'
        cases hd : o.dst with
        | none => trivial
        | some d =>
          rw [hd] at hv
          show GK hist GL hs' d v
          unfold GK
          rw [hk2 i o d ho hd, hp]
          exact hv
      have hT' : ∀ w', R hs' w' → InvK ops st R (listed.setIfInBounds i true) hs' w' := fun w' hR => by
        refine ⟨hR, fun j hj => ?_, hT.sub, hT.uniq, shut_set hT.shut hI.lsize hi⟩
        rw [getD_set_ne false (show i ≠ j from fun e => hni (by rw [e]; exact hj))]
        exact hT.keys j hj
      split
      · rename_i hw
        refine .inl ?_
        exact Brings.upon (hst2.1 hw) fun v w' hv => ih _ _ _ hs' hcnt (hT' _ (hRt _ _ _ hT.state hv.1)) (hI.stepG hc (fun d v h => h) ho (hg _ hv.2 _))
      · rename_i hw
        have := hst2.2 (by simpa using hw)
        exact ih _ _ _ hs' hcnt (hT' _ hT.state) (hI.stepG hc (fun d v h => h) ho (hg _ this.2 _))
    | true =>
      rw [hp] at hst1
      have hni : i ∈ st := by rw [← List.contains_iff_mem]; exact hp
      have hst2 := hst1 hs' (hT.not hi) (hT.later hi) a w hT.state (hI.looks hc ho hi)
      have hg2 : ∀ v w', GD (fun d u _ => GK hist GL (hs' ++ [(i, v)]) d u) o.dst v w' := by
        intro v w'
        cases hd : o.dst with
        | none => trivial
        | some d =>
          show GK hist GL (hs' ++ [(i, v)]) d v
          unfold GK
          rw [hk2 i o d ho hd, hp]
          simp
      have hmono : ∀ v d u, GK hist GL hs' d u → GK hist GL (hs' ++ [(i, v)]) d u := by
        intro v d u h
        unfold GK at h ⊢
        split at h
        · exact List.mem_append_left _ h
        · exact h
      have hT' : ∀ v w', R (hs' ++ [(i, v)]) w' → InvK ops st R (listed.setIfInBounds i true) (hs' ++ [(i, v)]) w' := fun v w' hR => by
        refine ⟨hR, fun j hj => ?_, fun j u hm => ?_, fun j u u' h1 h2 => ?_, shut_set hT.shut hI.lsize hi⟩
        · by_cases e : j = i
          · subst e
            rw [hli]
            exact ⟨fun _ => ⟨v, by simp⟩, fun _ => rfl⟩
          · rw [getD_set_ne false (Ne.symm e), hT.keys j hj]
            constructor
            · rintro ⟨u, hu⟩; exact ⟨u, List.mem_append_left _ hu⟩
            · rintro ⟨u, hu⟩
              rcases List.mem_append.1 hu with hu | hu
              · exact ⟨u, hu⟩
              · simp at hu; exact absurd hu.1 e
        · rcases List.mem_append.1 hm with hm | hm
          · exact hT.sub j u hm
          · simp at hm; rw [hm.1]; exact hni
        · rcases List.mem_append.1 h1 with h1 | h1 <;> rcases List.mem_append.1 h2 with h2 | h2
          · exact hT.uniq j u u' h1 h2
          · simp at h2; rw [h2.1] at h1; exact absurd h1 (hT.not hi _)
          · simp at h1; rw [h1.1] at h2; exact absurd h2 (hT.not hi _)
          · simp at h1 h2; rw [h1.2, h2.2]
      split
      · rename_i hw
        refine .inl ?_
        exact Brings.upon (hst2.1 hw) fun v w' hv => ih _ _ _ (hs' ++ [(i, v)]) hcnt (hT' v _ hv) (hI.stepG hc (fun d u h => hmono v d u h) ho (hg2 v w'))
      · rename_i hw
        have := hst2.2 (by simpa using hw)
        exact ih _ _ _ (hs' ++ [(i, undef)]) hcnt (hT' undef _ this) (hI.stepG hc (fun d u h => hmono undef d u h) ho (hg2 undef w))
/-- THE LAW. -/
theorem wp_region_k {id : Nat} (dl : List Tmp) (st : List Nat) (hist : List (Tmp × Nat)) (GL : Tmp → Value → Prop) (R : List (Nat × Value) → World → Prop) (hdl : ops.toList.filterMap (·.dst) = dl) (hm : P.follows .mixedOrders = true) (hc : chkAny ops a0.tmps.size = true) (hk : chkK ops st hist = true)
    (hR0 : ∀ w, Turned (fun _ => False) w0 w → R [] w) (hRt : ∀ hs w w', R hs w → Turned (fun _ => False) w w' → R hs w') (hs : StepsK P hist GL ops a0 st R 0 ops.toList)
    (hQ : ∀ (hs : List (Nat × Value)) (vs : Tmp → Value) w, (∀ i ∈ st, ∃ v, (i, v) ∈ hs) → (∀ i v v', (i, v) ∈ hs → (i, v') ∈ hs → v = v') → R hs w → (∀ s ∈ dl, GK hist GL hs s (vs s)) → Q .normal ⟨dl.foldl (fun t d => t.setIfInBounds d (vs d)) a0.tmps, a0.defers⟩ w) : (Code.region id ops true).wp P Q a0 w0 := by
  refine wp_region_any hm (k_go hc hk hRt hs ?_ _ _ _ _ [] ?_ ⟨hR0 _ ((Turned.refl _ w0).drew), fun i hi => ?_, fun i v h => (List.not_mem_nil h).elim, fun i v v' h => (List.not_mem_nil h).elim, fun j o ho hj => ?_⟩ ?_)
  · intro hs a w hall huniq hR hL hd hsz
    have := hQ hs (fun d => a.tmps.getD d undef) w hall huniq hR (fun s hs => by
      have := hL s
      unfold Looks at this
      rw [hdl, if_pos hs] at this
      exact this)
    have e : a = ⟨dl.foldl (fun t d => t.setIfInBounds d (a.tmps.getD d undef)) a0.tmps, a0.defers⟩ := by
      cases a with | mk tmps defers =>
      simp only at hd hsz this ⊢
      subst hd
      congr 1
      apply Array.ext
      · rw [fold_size]; exact hsz
      · intro i h1 h2
        have h3 : i < a0.tmps.size := by rw [← hsz]; exact h1
        have hf := fold_getD (fun d => tmps.getD d undef) dl a0.tmps i h3
        have hl := hL i
        unfold Looks at hl
        rw [hdl] at hl
        have e1 := getD_lt tmps i h1
        have e2 := getD_lt _ i h2
        rw [← e1, ← e2, hf]
        by_cases hm : i ∈ dl
        · rw [if_pos hm]
        · rw [if_neg hm] at hl ⊢
          exact hl
    rw [e]
    exact this
  · rw [Array.toList_replicate, List.count_replicate_self]
    exact Nat.le_refl _
  · constructor
    · intro h
      exfalso
      simp only [Array.getD_eq_getD_getElem?] at h
      cases hx : (Array.replicate ops.size false)[i]? with
      | none => rw [hx] at h; cases h
      | some b =>
        rw [hx] at h
        rw [Array.getElem?_replicate] at hx
        split at hx
        · injection hx with hx; subst hx; cases h
        · cases hx
    · rintro ⟨v, h⟩; exact (List.not_mem_nil h).elim
  · have hlt := (Array.getElem?_eq_some_iff.1 ho).1
    simp [hlt] at hj
  · refine ⟨rfl, rfl, by simp, fun j oj d hj hd hl => ?_, fun d _ => rfl⟩
    have hlt := (Array.getElem?_eq_some_iff.1 hj).1
    simp [hlt] at hl
end
end Go.Proofs.Ytoihjobdfjajfaa

/- 'x, y := own(a), own(b)': two calls, two blocks laid (whenever), two stores: the state of such a region. -/
namespace Go.Proofs.Ytoihjobdfjajfaa
set_option linter.unusedVariables false
set_option linter.unusedSimpArgs false
open Go.RowKit

abbrev Hist := List (Nat × Value)
def ptr (g : Nat) : Value := .pointer (some ⟨g, 0, none⟩)
theorem ptr_inj {a b : Nat} (h : ptr a = ptr b) : a = b := by unfold ptr at h; injection h with h; injection h with h; injection h
/-- One of the two: its call (ic), its block (ia), its store (is). -/
structure Side (n0 ic ia is : Nat) (t : LT) (hs : Hist) (W : World) : Prop where
  call : ∀ v, (ic, v) ∈ hs → ∃ u : LT, v = u.val ∧ u.bare = t.bare ∧ u.In (fun k => n0 ≤ k ∧ (4, ptr k) ∉ hs ∧ (5, ptr k) ∉ hs) W
  box : ∀ v, (ia, v) ∈ hs → ∃ g c0 c1 c2 c3, v = ptr g ∧ n0 ≤ g ∧ W.heap[g]? = some (.cells #[c0, c1, c2, c3] 41 (0, 0)) ∧ ∀ q va, (is, q) ∈ hs → (ic, va) ∈ hs → va = .agg #[c0, c1, c2, c3]
theorem mem_snoc {hs : Hist} {i j : Nat} {x v : Value} (h : (j, v) ∈ hs ++ [(i, x)]) : (j, v) ∈ hs ∨ (j = i ∧ v = x) := by
  rcases List.mem_append.1 h with h | h
  · exact .inl h
  · simp at h; exact .inr h
section
variable {n0 ic ia is : Nat} {t : LT} {hs : Hist} {W W' : World}
theorem Side.turned0 (h : Side n0 ic ia is t hs W) (T : Turned (fun _ => False) W W') : Side n0 ic ia is t hs W' := by
  refine ⟨fun v hv => ?_, fun v hv => ?_⟩
  · obtain ⟨u, h1, h2, h3⟩ := h.call v hv
    exact ⟨u, h1, h2, h3.turned0 T⟩
  · obtain ⟨g, c0, c1, c2, c3, h1, h2, h3, h4⟩ := h.box v hv
    exact ⟨g, c0, c1, c2, c3, h1, h2, (T.block g (Array.getElem?_eq_some_iff.1 h3).1 (fun f => f)).trans h3, h4⟩
/-- What the other side does. -/
theorem Side.move {S : Nat → Prop} {i : Nat} {x : Value} (h : Side n0 ic ia is t hs W) (hi : i ≠ ic ∧ i ≠ ia ∧ i ≠ is) (T : Turned S W W') (hS : ∀ k, S k → (4, ptr k) ∈ hs ∨ (5, ptr k) ∈ hs) (hS2 : ∀ g, (ia, ptr g) ∈ hs → ¬ S g)
    (hx : ∀ k, i = 4 ∨ i = 5 → x = ptr k → W.heap.size ≤ k) : Side n0 ic ia is t (hs ++ [(i, x)]) W' := by
  have hb : ∀ j v, j ≠ i → (j, v) ∈ hs ++ [(i, x)] → (j, v) ∈ hs := fun j v hj hm => by
    rcases mem_snoc hm with hm | ⟨e, _⟩
    · exact hm
    · exact absurd e hj
  refine ⟨fun v hv => ?_, fun v hv => ?_⟩
  · obtain ⟨u, h1, h2, h3⟩ := h.call v (hb _ _ (Ne.symm hi.1) hv)
    refine ⟨u, h1, h2, h3.turned T (fun k _ hk hs => ?_) (fun k hl hk => ⟨hk.1, fun hm => ?_, fun hm => ?_⟩)⟩
    · rcases hS k hs with e | e
      · exact hk.2.1 e
      · exact hk.2.2 e
    · rcases mem_snoc hm with hm | ⟨e1, e2⟩
      · exact hk.2.1 hm
      · have := hx k (.inl e1.symm) e2.symm; omega
    · rcases mem_snoc hm with hm | ⟨e1, e2⟩
      · exact hk.2.2 hm
      · have := hx k (.inr e1.symm) e2.symm; omega
  · obtain ⟨g, c0, c1, c2, c3, h1, h2, h3, h4⟩ := h.box v (hb _ _ (Ne.symm hi.2.1) hv)
    refine ⟨g, c0, c1, c2, c3, h1, h2, (T.block g (Array.getElem?_eq_some_iff.1 h3).1 (hS2 g (by rw [← h1]; exact hb _ _ (Ne.symm hi.2.1) hv))).trans h3, fun q va hq hva => h4 q va (hb _ _ (Ne.symm hi.2.2) hq) (hb _ _ (Ne.symm hi.1) hva)⟩
/-- Its call. -/
theorem Side.called {u : LT} (h : Side n0 ic ia is t hs W) (hd : ic ≠ ia ∧ ic ≠ is ∧ ic ≠ 4 ∧ ic ≠ 5) (hno : ∀ v, (ic, v) ∉ hs) (hst : ∀ q, (is, q) ∉ hs) (T : Turned (fun _ => False) W W') (hn : n0 ≤ W.heap.size) (hb : u.bare = t.bare) (hu : u.In (fun k => W.heap.size ≤ k) W')
    (hbox : ∀ k, (4, ptr k) ∈ hs ∨ (5, ptr k) ∈ hs → k < W.heap.size) : Side n0 ic ia is t (hs ++ [(ic, u.val)]) W' := by
  refine ⟨fun v hv => ?_, fun v hv => ?_⟩
  · rcases mem_snoc hv with hm | ⟨_, e⟩
    · exact absurd hm (hno v)
    · refine ⟨u, e, hb, hu.mono (fun k _ hk => ⟨by omega, fun hm => ?_, fun hm => ?_⟩)⟩
      · rcases mem_snoc hm with hm | ⟨e, _⟩
        · have := hbox k (.inl hm); omega
        · exact hd.2.2.1 e.symm
      · rcases mem_snoc hm with hm | ⟨e, _⟩
        · have := hbox k (.inr hm); omega
        · exact hd.2.2.2 e.symm
  · rcases mem_snoc hv with hm | ⟨e, _⟩
    · obtain ⟨g, c0, c1, c2, c3, h1, h2, h3, h4⟩ := h.box v hm
      refine ⟨g, c0, c1, c2, c3, h1, h2, (T.block g (Array.getElem?_eq_some_iff.1 h3).1 (fun f => f)).trans h3, fun q va hq hva => ?_⟩
      rcases mem_snoc hq with hq | ⟨e, _⟩
      · exact absurd hq (hst q)
      · exact absurd e.symm hd.2.1
    · exact absurd e.symm hd.1
/-- Its block. -/
theorem Side.laid {c0 c1 c2 c3 : Value} (h : Side n0 ic ia is t hs W) (hd : ia ≠ ic ∧ ia ≠ is) (hno : ∀ v, (ia, v) ∉ hs) (hst : ∀ q, (is, q) ∉ hs) (hn : n0 ≤ W.heap.size) : Side n0 ic ia is t (hs ++ [(ia, ptr W.heap.size)]) (W.alloc (.cells #[c0, c1, c2, c3] 41)) := by
  have T : Turned (fun _ => False) W (W.alloc (.cells #[c0, c1, c2, c3] 41)) := (Turned.refl _ W).alloc _
  refine ⟨fun v hv => ?_, fun v hv => ?_⟩
  · rcases mem_snoc hv with hm | ⟨e, _⟩
    · obtain ⟨u, h1, h2, h3⟩ := h.call v hm
      refine ⟨u, h1, h2, h3.turned T (fun _ _ _ f => f) (fun k hl hk => ⟨hk.1, fun hm => ?_, fun hm => ?_⟩)⟩
      · rcases mem_snoc hm with hm | ⟨_, e⟩
        · exact hk.2.1 hm
        · have := ptr_inj e; omega
      · rcases mem_snoc hm with hm | ⟨_, e⟩
        · exact hk.2.2 hm
        · have := ptr_inj e; omega
    · exact absurd e.symm hd.1
  · rcases mem_snoc hv with hm | ⟨_, e⟩
    · exact absurd hm (hno v)
    · refine ⟨W.heap.size, c0, c1, c2, c3, e, hn, heap_alloc_new W _, fun q va hq hva => ?_⟩
      rcases mem_snoc hq with hq | ⟨e, _⟩
      · exact absurd hq (hst q)
      · exact absurd e.symm hd.2
/-- Its store. -/
theorem Side.stored {g : Nat} {c0 c1 c2 c3 x : Value} (h : Side n0 ic ia is t hs W) (hd : is ≠ ic ∧ is ≠ ia ∧ is ≠ 4 ∧ is ≠ 5) (hia : ia = 4 ∨ ia = 5) (uq : ∀ i v v', (i, v) ∈ hs → (i, v') ∈ hs → v = v') (hg : (ia, ptr g) ∈ hs) (hc : (ic, .agg #[c0, c1, c2, c3]) ∈ hs)
    (hW : Turned (fun k => k = g) W W') (hb : W'.heap[g]? = some (.cells #[c0, c1, c2, c3] 41 (0, 0))) : Side n0 ic ia is t (hs ++ [(is, x)]) W' := by
  have hbk : ∀ j v, j ≠ is → (j, v) ∈ hs ++ [(is, x)] → (j, v) ∈ hs := fun j v hj hm => by
    rcases mem_snoc hm with hm | ⟨e, _⟩
    · exact hm
    · exact absurd e hj
  refine ⟨fun v hv => ?_, fun v hv => ?_⟩
  · obtain ⟨u, h1, h2, h3⟩ := h.call v (hbk _ _ (Ne.symm hd.1) hv)
    refine ⟨u, h1, h2, h3.turned hW (fun k _ hk e => ?_) (fun k _ hk => ⟨hk.1, fun hm => hk.2.1 (hbk _ _ (Ne.symm hd.2.2.1) hm), fun hm => hk.2.2 (hbk _ _ (Ne.symm hd.2.2.2) hm)⟩)⟩
    subst e
    rcases hia with e | e
    · rw [e] at hg; exact hk.2.1 hg
    · rw [e] at hg; exact hk.2.2 hg
  · have hv' := hbk _ _ (Ne.symm hd.2.1) hv
    obtain ⟨g', d0, d1, d2, d3, h1, h2, h3, h4⟩ := h.box v hv'
    have e := ptr_inj (h1.symm.trans (uq _ _ _ hv' hg))
    subst e
    exact ⟨g', c0, c1, c2, c3, h1, h2, hb, fun q va hq hva => uq _ _ _ (hbk _ _ (Ne.symm hd.1) hva) hc⟩
end
/-- Both. -/
structure TwinS (w0 : World) (a b : LT) (hs : Hist) (W : World) : Prop where
  turned : Turned (fun _ => False) w0 W
  one : Side w0.heap.size 1 4 6 a hs W
  two : Side w0.heap.size 3 5 7 b hs W
  apart : ∀ v v', (4, v) ∈ hs → (5, v') ∈ hs → v ≠ v'
  uniq : ∀ i v v', (i, v) ∈ hs → (i, v') ∈ hs → v = v'
section
variable {w0 : World} {a b : LT} {hs : Hist} {W W' : World}
theorem TwinS.start (T : Turned (fun _ => False) w0 W) : TwinS w0 a b [] W :=
  ⟨T, ⟨fun _ h => (List.not_mem_nil h).elim, fun _ h => (List.not_mem_nil h).elim⟩, ⟨fun _ h => (List.not_mem_nil h).elim, fun _ h => (List.not_mem_nil h).elim⟩, fun _ _ h => (List.not_mem_nil h).elim, fun _ _ _ h => (List.not_mem_nil h).elim⟩
theorem TwinS.turned0 (h : TwinS w0 a b hs W) (T : Turned (fun _ => False) W W') : TwinS w0 a b hs W' := ⟨h.turned.trans T, h.one.turned0 T, h.two.turned0 T, h.apart, h.uniq⟩
theorem TwinS.boxes (h : TwinS w0 a b hs W) : ∀ k, (4, ptr k) ∈ hs ∨ (5, ptr k) ∈ hs → k < W.heap.size := by
  intro k hk
  rcases hk with hk | hk
  · obtain ⟨g, _, _, _, _, h1, _, h3, _⟩ := h.one.box _ hk
    rw [ptr_inj h1]; exact (Array.getElem?_eq_some_iff.1 h3).1
  · obtain ⟨g, _, _, _, _, h1, _, h3, _⟩ := h.two.box _ hk
    rw [ptr_inj h1]; exact (Array.getElem?_eq_some_iff.1 h3).1
theorem uniq_snoc {i : Nat} {x : Value} (h : ∀ i v v', (i, v) ∈ hs → (i, v') ∈ hs → v = v') (hno : ∀ v, (i, v) ∉ hs) : ∀ j v v', (j, v) ∈ hs ++ [(i, x)] → (j, v') ∈ hs ++ [(i, x)] → v = v' := by
  intro j v v' h1 h2
  rcases mem_snoc h1 with h1 | ⟨e1, f1⟩ <;> rcases mem_snoc h2 with h2 | ⟨e2, f2⟩
  · exact h _ _ _ h1 h2
  · rw [e2] at h1; exact absurd h1 (hno _)
  · rw [e1] at h2; exact absurd h2 (hno _)
  · rw [f1, f2]
theorem TwinS.call1 {u : LT} (h : TwinS w0 a b hs W) (hno : ∀ v, (1, v) ∉ hs) (hst : ∀ q, (6, q) ∉ hs) (T : Turned (fun _ => False) W W') (hb : u.bare = a.bare) (hu : u.In (fun k => W.heap.size ≤ k) W') : TwinS w0 a b (hs ++ [(1, u.val)]) W' :=
  ⟨h.turned.trans T, h.one.called (by decide) hno hst T h.turned.size hb hu h.boxes, h.two.move (by decide) T (fun _ f => f.elim) (fun _ _ f => f) (fun k e => by omega),
    fun v v' h1 h2 => by
      rcases mem_snoc h1 with h1 | ⟨e, _⟩
      · rcases mem_snoc h2 with h2 | ⟨e, _⟩
        · exact h.apart _ _ h1 h2
        · exact absurd e (by decide)
      · exact absurd e (by decide), uniq_snoc h.uniq hno⟩
theorem TwinS.call3 {u : LT} (h : TwinS w0 a b hs W) (hno : ∀ v, (3, v) ∉ hs) (hst : ∀ q, (7, q) ∉ hs) (T : Turned (fun _ => False) W W') (hb : u.bare = b.bare) (hu : u.In (fun k => W.heap.size ≤ k) W') : TwinS w0 a b (hs ++ [(3, u.val)]) W' :=
  ⟨h.turned.trans T, h.one.move (by decide) T (fun _ f => f.elim) (fun _ _ f => f) (fun k e => by omega), h.two.called (by decide) hno hst T h.turned.size hb hu h.boxes,
    fun v v' h1 h2 => by
      rcases mem_snoc h1 with h1 | ⟨e, _⟩
      · rcases mem_snoc h2 with h2 | ⟨e, _⟩
        · exact h.apart _ _ h1 h2
        · exact absurd e (by decide)
      · exact absurd e (by decide), uniq_snoc h.uniq hno⟩
theorem TwinS.lay4 {c0 c1 c2 c3 : Value} (h : TwinS w0 a b hs W) (hno : ∀ v, (4, v) ∉ hs) (hst : ∀ q, (6, q) ∉ hs) : TwinS w0 a b (hs ++ [(4, ptr W.heap.size)]) (W.alloc (.cells #[c0, c1, c2, c3] 41)) :=
  ⟨h.turned.alloc _, h.one.laid (by decide) hno hst h.turned.size, h.two.move (S := fun _ => False) (by decide) ((Turned.refl _ W).alloc _) (fun _ f => f.elim) (fun _ _ f => f) (fun k _ e => by rw [ptr_inj e]; exact Nat.le_refl _),
    fun v v' h1 h2 => by
      rcases mem_snoc h2 with h2 | ⟨e, _⟩
      · rcases mem_snoc h1 with h1 | ⟨_, e⟩
        · exact h.apart _ _ h1 h2
        · intro e'
          have := h.boxes W.heap.size (.inr (by rw [← e, e']; exact h2))
          omega
      · exact absurd e (by decide), uniq_snoc h.uniq hno⟩
theorem TwinS.lay5 {c0 c1 c2 c3 : Value} (h : TwinS w0 a b hs W) (hno : ∀ v, (5, v) ∉ hs) (hst : ∀ q, (7, q) ∉ hs) : TwinS w0 a b (hs ++ [(5, ptr W.heap.size)]) (W.alloc (.cells #[c0, c1, c2, c3] 41)) :=
  ⟨h.turned.alloc _, h.one.move (S := fun _ => False) (by decide) ((Turned.refl _ W).alloc _) (fun _ f => f.elim) (fun _ _ f => f) (fun k _ e => by rw [ptr_inj e]; exact Nat.le_refl _), h.two.laid (by decide) hno hst h.turned.size,
    fun v v' h1 h2 => by
      rcases mem_snoc h1 with h1 | ⟨e, _⟩
      · rcases mem_snoc h2 with h2 | ⟨_, e⟩
        · exact h.apart _ _ h1 h2
        · intro e'
          have := h.boxes W.heap.size (.inl (by rw [← e, ← e']; exact h1))
          omega
      · exact absurd e (by decide), uniq_snoc h.uniq hno⟩
theorem set4_turned (W : World) (g : Nat) (c0 c1 c2 c3 : Value) : Turned (fun k => k = g) W ((((W.setCell ⟨g, 0, none⟩ c0).setCell ⟨g, 1, none⟩ c1).setCell ⟨g, 2, none⟩ c2).setCell ⟨g, 3, none⟩ c3) :=
  ((((Turned.refl (fun k => k = g) W).setCell (p := ⟨g, 0, none⟩) (.inr rfl) _).setCell (p := ⟨g, 1, none⟩) (.inr rfl) _).setCell (p := ⟨g, 2, none⟩) (.inr rfl) _).setCell (p := ⟨g, 3, none⟩) (.inr rfl) _
theorem TwinS.store6 {g : Nat} {c0 c1 c2 c3 x : Value} (h : TwinS w0 a b hs W) (hno : ∀ v, (6, v) ∉ hs) (hg : (4, ptr g) ∈ hs) (hc : (1, .agg #[c0, c1, c2, c3]) ∈ hs) :
    TwinS w0 a b (hs ++ [(6, x)]) ((((W.setCell ⟨g, 0, none⟩ c0).setCell ⟨g, 1, none⟩ c1).setCell ⟨g, 2, none⟩ c2).setCell ⟨g, 3, none⟩ c3) := by
  have T := set4_turned W g c0 c1 c2 c3
  obtain ⟨g', d0, d1, d2, d3, e, h2, h3, _⟩ := h.one.box _ hg
  have e := ptr_inj e
  subst e
  refine ⟨h.turned.step T (fun i hi e => by omega), h.one.stored (by decide) (.inl rfl) h.uniq hg hc T (set4 h3), h.two.move (by decide) T (fun k e => .inl (by rw [e]; exact hg)) (fun g' hm e => h.apart _ _ hg hm (by rw [e])) (fun k e => by omega), fun v v' h1 h2 => ?_, uniq_snoc h.uniq hno⟩
  rcases mem_snoc h1 with h1 | ⟨e, _⟩
  · rcases mem_snoc h2 with h2 | ⟨e, _⟩
    · exact h.apart _ _ h1 h2
    · exact absurd e (by decide)
  · exact absurd e (by decide)
theorem TwinS.store7 {g : Nat} {c0 c1 c2 c3 x : Value} (h : TwinS w0 a b hs W) (hno : ∀ v, (7, v) ∉ hs) (hg : (5, ptr g) ∈ hs) (hc : (3, .agg #[c0, c1, c2, c3]) ∈ hs) :
    TwinS w0 a b (hs ++ [(7, x)]) ((((W.setCell ⟨g, 0, none⟩ c0).setCell ⟨g, 1, none⟩ c1).setCell ⟨g, 2, none⟩ c2).setCell ⟨g, 3, none⟩ c3) := by
  have T := set4_turned W g c0 c1 c2 c3
  obtain ⟨g', d0, d1, d2, d3, e, h2, h3, _⟩ := h.two.box _ hg
  have e := ptr_inj e
  subst e
  refine ⟨h.turned.step T (fun i hi e => by omega), h.one.move (by decide) T (fun k e => .inr (by rw [e]; exact hg)) (fun g' hm e => h.apart _ _ hm hg (by rw [e])) (fun k e => by omega), h.two.stored (by decide) (.inr rfl) h.uniq hg hc T (set4 h3), fun v v' h1 h2 => ?_, uniq_snoc h.uniq hno⟩
  rcases mem_snoc h1 with h1 | ⟨e, _⟩
  · rcases mem_snoc h2 with h2 | ⟨e, _⟩
    · exact h.apart _ _ h1 h2
    · exact absurd e (by decide)
  · exact absurd e (by decide)
/-- The cells of the block, for the store. -/
theorem TwinS.cells4 (h : TwinS w0 a b hs W) {v : Value} (hm : (4, v) ∈ hs ∨ (5, v) ∈ hs) : ∃ g, v = .pointer (some ⟨g, 0, none⟩) ∧ (∃ c0 c1 c2 c3, W.cell? ⟨g, 0, none⟩ = some c0 ∧ W.cell? ⟨g, 1, none⟩ = some c1 ∧ W.cell? ⟨g, 2, none⟩ = some c2 ∧ W.cell? ⟨g, 3, none⟩ = some c3) ∧ W.frozen? ⟨g, 0, none⟩ = false ∧ W.frozen? ⟨g, 1, none⟩ = false ∧ W.frozen? ⟨g, 2, none⟩ = false ∧ W.frozen? ⟨g, 3, none⟩ = false := by
  have : ∃ g c0 c1 c2 c3, v = ptr g ∧ W.heap[g]? = some (.cells #[c0, c1, c2, c3] 41 (0, 0)) := by
    rcases hm with hm | hm
    · obtain ⟨g, c0, c1, c2, c3, h1, _, h3, _⟩ := h.one.box v hm
      exact ⟨g, c0, c1, c2, c3, h1, h3⟩
    · obtain ⟨g, c0, c1, c2, c3, h1, _, h3, _⟩ := h.two.box v hm
      exact ⟨g, c0, c1, c2, c3, h1, h3⟩
  obtain ⟨g, c0, c1, c2, c3, h1, h3⟩ := this
  obtain ⟨q0, q1, q2, q3, f0, f1, f2, f3⟩ := Go.Proofs.Ytoihjobdfjajfaa.cells4 h3
  exact ⟨g, h1, ⟨c0, c1, c2, c3, q0, q1, q2, q3⟩, f0, f1, f2, f3⟩
/-- At the region's end. -/
theorem TwinS.done (h : TwinS w0 a b hs W) (hall : ∀ i ∈ [1, 3, 4, 5, 6, 7], ∃ v, (i, v) ∈ hs) {v5 v6 : Value} (h5 : (4, v5) ∈ hs) (h6 : (5, v6) ∈ hs) :
    ∃ (x y : LT) (gx gy : Nat), v5 = .pointer (some ⟨gx, 0, none⟩) ∧ v6 = .pointer (some ⟨gy, 0, none⟩) ∧ x.bare = a.bare ∧ y.bare = b.bare ∧ w0.heap.size ≤ gx ∧ w0.heap.size ≤ gy ∧ gx ≠ gy ∧
      W.heap[gx]? = some (.cells #[.int .i64 x.kind, .int .i64 x.n, .string x.name, .slice x.at_.1 x.args.length x.at_.2] 41 (0, 0)) ∧ W.heap[gy]? = some (.cells #[.int .i64 y.kind, .int .i64 y.n, .string y.name, .slice y.at_.1 y.args.length y.at_.2] 41 (0, 0)) ∧
      x.In (fun k => w0.heap.size ≤ k ∧ k ≠ gx ∧ k ≠ gy) W ∧ y.In (fun k => w0.heap.size ≤ k ∧ k ≠ gx ∧ k ≠ gy) W := by
  obtain ⟨va, ha⟩ := hall 1 (by simp)
  obtain ⟨vb, hb⟩ := hall 3 (by simp)
  obtain ⟨q6, hq6⟩ := hall 6 (by simp)
  obtain ⟨q7, hq7⟩ := hall 7 (by simp)
  obtain ⟨gx, c0, c1, c2, c3, e1, n1, b1, s1⟩ := h.one.box _ h5
  obtain ⟨gy, d0, d1, d2, d3, e2, n2, b2, s2⟩ := h.two.box _ h6
  obtain ⟨x, rfl, hx, ix⟩ := h.one.call _ ha
  obtain ⟨y, rfl, hy, iy⟩ := h.two.call _ hb
  have t1 := s1 q6 _ hq6 ha
  have t2 := s2 q7 _ hq7 hb
  rw [LT.val_eq] at t1 t2
  injection t1 with t1
  injection t2 with t2
  rw [← t1] at b1
  rw [← t2] at b2
  subst e1 e2
  refine ⟨x, y, gx, gy, rfl, rfl, hx, hy, n1, n2, fun e => h.apart _ _ h5 h6 (by rw [e]), b1, b2, ix.mono (fun k _ hk => ⟨hk.1, fun e => hk.2.1 (by rw [e]; exact h5), fun e => hk.2.2 (by rw [e]; exact h6)⟩), iy.mono (fun k _ hk => ⟨hk.1, fun e => hk.2.1 (by rw [e]; exact h5), fun e => hk.2.2 (by rw [e]; exact h6)⟩)⟩
end
end Go.Proofs.Ytoihjobdfjajfaa

/- own, as chapter 7's. -/
namespace Go.Proofs.Ytoihjobdfjajfaa
set_option linter.unusedVariables false
set_option linter.unusedSimpArgs false
open Go.RowKit

set_option maxRecDepth 100000 in
set_option maxHeartbeats 3200000 in
theorem own44 {p : Nat → Prop} (n : Nat) : ∀ (t : LT) (w : World), t.depth ≤ n → t.In p w → slim t →
    Calls Try.prog 44 #[t.val] w fun e w' => ∃ u : LT, e = .returned u.val ∧ u.bare = t.bare ∧ u.In (fun k => w.heap.size ≤ k) w' ∧ Turned (fun _ => False) w w' := by
  induction n with
  | zero => intro t w h; have := Tm.depth_pos t; omega
  | succ n ih =>
    intro t w hd ht hsl
    obtain ⟨i0, hi0, hz0, hz1, hz2⟩ := info_parts infoR
    have hl12 : t.args.length ≤ 12 := hsl t (by rw [Tm.flat_eq]; exact List.mem_cons_self ..)
    have hcall : ∀ x : LT, x ∈ t.args → ∀ W, x.In p W → Calls Try.prog 44 #[x.val] W fun e w' => ∃ u : LT, e = .returned u.val ∧ u.bare = x.bare ∧ u.In (fun k => W.heap.size ≤ k) w' ∧ Turned (fun _ => False) W w' := fun x hx W hW => ih x W (by have := arg_depth hx; omega) hW (fun y hy => hsl y (by rw [Tm.flat_eq]; exact List.mem_cons_of_mem _ (mem_flats_arg hx hy)))
    have HC := Lib.hid hcall
    have HIN := Lib.hid ht
    have hL := fun W h => (LT.In.lies (p := p) (w := W) (t := t) h)
    rw [LT.val_eq]
    obtain ⟨ad, had⟩ : ∃ z, z = t.at_.1 := ⟨_, rfl⟩
    obtain ⟨cd, hcd⟩ : ∃ z, z = t.at_.2 := ⟨_, rfl⟩
    rw [← had] at hL
    rw [← had, ← hcd]
    have HL := Lib.hid hL
    have H3 := Lib.hid (three w (.cells #[.int .i64 t.kind, .int .i64 t.n, .string t.name, .slice ad t.args.length cd] 27) (.cells #[.int .i64 0, .int .i64 0, .string ⟨#[]⟩, .slice none 0 0] 41) (.cells #[.int .i64 t.kind, .int .i64 t.n, .string t.name, .slice none 0 0] 41))
    clear ih hd hsl hcall ht hL had hcd
    go_enter Try.func44, Try.ntmps44
    go_wp2_with fail
    revert H3
    generalize (((w.alloc (.cells #[.int .i64 t.kind, .int .i64 t.n, .string t.name, .slice ad t.args.length cd] 27)).alloc (.cells #[.int .i64 0, .int .i64 0, .string ⟨#[]⟩, .slice none 0 0] 41)).alloc (.cells #[.int .i64 t.kind, .int .i64 t.n, .string t.name, .slice none 0 0] 41)) = w1
    intro H3
    obtain ⟨B0, hB0⟩ : ∃ z, z = w.heap.size := ⟨_, rfl⟩
    obtain ⟨B1, hB1⟩ : ∃ z, z = w.heap.size + 1 := ⟨_, rfl⟩
    obtain ⟨B2, hB2⟩ : ∃ z, z = w.heap.size + 2 := ⟨_, rfl⟩
    obtain ⟨N, hN⟩ : ∃ z, z = w.heap.size + 3 := ⟨_, rfl⟩
    rw [← hB1, ← hB2, ← hN, ← hB0] at H3
    have HE := Lib.hid (And.intro hB0 (And.intro hB1 (And.intro hB2 hN)))
    try rw [← hB2]
    try rw [← hB1]
    try rw [← hB0]
    clear hB0 hB1 hB2 hN
    have hinit : Hid (OwnI N B2 t w1 0 [] none 0 w1) := ⟨rfl, H3.out.2.2.2.1, Row.nil _ _ _, trivial, fun b h => by simp [Value.ownBlock] at h, Turned.refl _ _⟩
    go_loopg [4] t.args.length (fun g i wr => ∃ j : Nat, Hid (j + g = t.args.length) ∧ j ≤ t.args.length ∧ i = .int .i64 j ∧ ∃ us a c, Hid (OwnI N B2 t w1 j us a c wr))
    case atStart => exact ⟨0, Nat.zero_add _, Nat.zero_le _, rfl, [], none, 0, hinit⟩
    case round =>
      obtain ⟨j, HG, hj, rfl, us, a, c, HOI⟩ := hrel
      have HTw : Hid (Turned (fun _ => False) w wr) := H3.out.1.step HOI.out.turned (fun i hi e => by have := HE.out; omega)
      have hb0 := (HOI.out.turned.block B0 (Array.getElem?_eq_some_iff.1 H3.out.2.2.1).1 (fun e => by have := HE.out; omega)).trans H3.out.2.2.1
      obtain ⟨_, _, _, k3, _⟩ := cells4 hb0
      have hlen' : us.length = j := by have := congrArg List.length HOI.out.bares; rw [Tm.bares_length, Tm.bares_length, List.length_take] at this; omega
      have HUL := Lib.hid hlen'
      clear hb0 hlen'
      by_cases hjl : j < t.args.length
      · have hx : t.args[j]? = some t.args[j] := List.getElem?_eq_getElem hjl
        obtain ⟨x, hxe⟩ : ∃ x : LT, x = t.args[j] := ⟨_, rfl⟩
        rw [← hxe] at hx
        clear hxe
        have tin := HIN.out.turned0 HTw.out
        have xin := (LT.ins_iff _).1 tin.args x (List.mem_of_getElem? hx)
        obtain ⟨b, o, rfl, _, c0, c1, c2, c3⟩ := (HL.out _ tin).cell hx
        have hcx := fun W (h : Turned (fun _ => False) wr W) => HC.out x (List.mem_of_getElem? hx) W (xin.turned0 h)
        rw [LT.val_eq x] at hcx
        have HCX := Lib.hid hcx
        have HX := Lib.hid hx
        have HBN : Hid (B2 < N ∧ N ≤ wr.heap.size ∧ w1.heap.size ≤ N) := ⟨by have := HE.out; omega, by have := HOI.out.turned.size; have := H3.out.2.1; omega, by have := H3.out.2.1; omega⟩
        clear hx hcx xin tin
        go_wp2_with fail
        · skip
          refine wp_region_hs [19, 20, 21, 22, 23, 24, 25, 26, 27, 28, 29] [7, 8, 9, 11] [4, 2, 0, 0, 0, 0, 0, 4, 4, 4, 4, 4] [26, 27, 28, 100011] (fun d v => (match d with | 19 => v = .pointer (some ⟨B2, 3, none⟩) | 20 => v = .slice a j c | 21 => v = .pointer (some ⟨B0, 3, none⟩) | 22 => v = .slice (some ⟨b, o, none⟩) t.args.length cd | 23 => v = .int .i64 (j : Int) | 24 => v = .pointer (some ⟨b, o + j * 4, none⟩) | 25 => v = .agg #[.int .i64 x.kind, .int .i64 x.n, .string x.name, .slice x.at_.1 x.args.length x.at_.2] | 29 => v = .pointer (some ⟨B2, 3, none⟩) | _ => True : Prop)) (OwnS N B2 t x w1 j us a c wr) (by kernel_rfl) rfl (by kernel_rfl) (by kernel_rfl) (by kernel_rfl) (by kernel_rfl) (fun _ h => h) (fun hs w w' h ht => OwnS.turned0 hs w w' h ht) ?hs ?hQ
          case hs =>
            refine ⟨?s0, ?s1, ?s2, ?s3, ?s4, ?s5, ?s6, ?s7, ?s8, ?s9, ?s10, ?s11, trivial⟩
            case s0 =>
              refine fun hs hle => stepG_free [] [3] (by kernel_rfl) rfl ?_
              · intro ac W hT hI hO
                have h3 : ac.tmps.getD 3 undef = .pointer (some ⟨B2, 0, none⟩) := hO 3 (by simp)
                show Brings Try.prog (fun v w' => Turned (fun _ => False) W w' ∧ v = .pointer (some ⟨B2, 3, none⟩)) _
                simp only [execOp, Act.eval, h3]
                go_simp
                try exact ⟨Turned.refl _ _, rfl⟩
            case s1 =>
              refine fun hs hle => stepG_free [19] [] (by kernel_rfl) rfl ?_
              · intro ac W hT hI hO
                have hle : hs.length ≤ 2 := hle
                have h19 : ac.tmps.getD 19 undef = .pointer (some ⟨B2, 3, none⟩) := hI 19 (by simp)
                show Brings Try.prog (fun v w' => Turned (fun _ => False) W w' ∧ v = .slice a j c) _
                obtain ⟨_, _, _, d3⟩ := OwnS.blk HOI.out hs W hle hT
                simp only [execOp, Act.eval, h19]
                go_simp
                exact ⟨Turned.refl _ _, rfl⟩
            case s2 =>
              refine fun hs hle => stepG_free [] [1] (by kernel_rfl) rfl ?_
              · intro ac W hT hI hO
                have hle : hs.length ≤ 0 := hle
                have h1 : ac.tmps.getD 1 undef = .pointer (some ⟨B0, 0, none⟩) := hO 1 (by simp)
                show Brings Try.prog (fun v w' => Turned (fun _ => False) W w' ∧ v = .pointer (some ⟨B0, 3, none⟩)) _
                simp only [execOp, Act.eval, h1]
                go_simp
                try exact ⟨Turned.refl _ _, rfl⟩
            case s3 =>
              refine fun hs hle => stepG_free [21] [] (by kernel_rfl) rfl ?_
              · intro ac W hT hI hO
                have hle : hs.length ≤ 0 := hle
                have h21 : ac.tmps.getD 21 undef = .pointer (some ⟨B0, 3, none⟩) := hI 21 (by simp)
                show Brings Try.prog (fun v w' => Turned (fun _ => False) W w' ∧ v = .slice (some ⟨b, o, none⟩) t.args.length cd) _
                have hT0 : Turned (fun _ => False) wr W := own_nil (by omega) hT; have e3 := hT0.cell0 k3; have g0 := hT0.cell0 c0; have g1 := hT0.cell0 c1; have g2 := hT0.cell0 c2; have g3 := hT0.cell0 c3
                simp only [execOp, Act.eval, h21]
                go_simp
                exact ⟨Turned.refl _ _, rfl⟩
            case s4 =>
              refine fun hs hle => stepG_free [] [4] (by kernel_rfl) rfl ?_
              · intro ac W hT hI hO
                have hle : hs.length ≤ 0 := hle
                have h4 : ac.tmps.getD 4 undef = .int .i64 (j : Int) := hO 4 (by simp)
                show Brings Try.prog (fun v w' => Turned (fun _ => False) W w' ∧ v = .int .i64 (j : Int)) _
                simp only [execOp, Act.eval, h4]
                go_simp
                try exact ⟨Turned.refl _ _, rfl⟩
            case s5 =>
              refine fun hs hle => stepG_free [22, 23] [] (by kernel_rfl) rfl ?_
              · intro ac W hT hI hO
                have hle : hs.length ≤ 0 := hle
                have h22 : ac.tmps.getD 22 undef = .slice (some ⟨b, o, none⟩) t.args.length cd := hI 22 (by simp)
                have h23 : ac.tmps.getD 23 undef = .int .i64 (j : Int) := hI 23 (by simp)
                show Brings Try.prog (fun v w' => Turned (fun _ => False) W w' ∧ v = .pointer (some ⟨b, o + j * 4, none⟩)) _
                simp only [execOp, Act.eval, h22, h23]
                go_simp
                try rw [if_pos (by omega)]
                try exact ⟨Turned.refl _ _, rfl⟩
            case s6 =>
              refine fun hs hle => stepG_free [24] [] (by kernel_rfl) rfl ?_
              · intro ac W hT hI hO
                have hle : hs.length ≤ 0 := hle
                have h24 : ac.tmps.getD 24 undef = .pointer (some ⟨b, o + j * 4, none⟩) := hI 24 (by simp)
                show Brings Try.prog (fun v w' => Turned (fun _ => False) W w' ∧ v = .agg #[.int .i64 x.kind, .int .i64 x.n, .string x.name, .slice x.at_.1 x.args.length x.at_.2]) _
                have hT0 : Turned (fun _ => False) wr W := own_nil (by omega) hT; have e3 := hT0.cell0 k3; have g0 := hT0.cell0 c0; have g1 := hT0.cell0 c1; have g2 := hT0.cell0 c2; have g3 := hT0.cell0 c3
                simp only [execOp, Act.eval, h24]
                go_simp
                exact ⟨Turned.refl _ _, rfl⟩
            case s7 =>
              refine fun hs hlen => stepG_free [25] [] (by kernel_rfl) rfl ?_
              · intro ac W hT hI hO
                have h25 : ac.tmps.getD 25 undef = .agg #[.int .i64 x.kind, .int .i64 x.n, .string x.name, .slice x.at_.1 x.args.length x.at_.2] := hI 25 (by simp)
                show Brings Try.prog (fun v w' => OwnS N B2 t x w1 j us a c wr (hs ++ [v]) w') _
                obtain rfl : hs = [] := List.eq_nil_of_length_eq_zero hlen
                replace hT : Turned (fun _ => False) wr W := hT
                simp only [execOp, Act.eval, h25]
                go_simp
                show Calls Try.prog 44 _ W _
                (with_reducible refine (HCX.out W hT).mono ?_)
                rintro e w' ⟨u, rfl, hb, hu, T'⟩
                exact ⟨_, rfl, hT.trans T', u, rfl, hb, hu.mono (fun k hk h => Nat.le_trans hT.size h)⟩
            case s8 =>
              refine fun hs hlen => stepG_free [26] [] (by kernel_rfl) rfl ?_
              · intro ac W hT hI hO
                have h26 : hs[0]? = some (ac.tmps.getD 26 undef) := hI 26 (by simp)
                show Brings Try.prog (fun v w' => OwnS N B2 t x w1 j us a c wr (hs ++ [v]) w') _
                obtain ⟨uv, rfl⟩ := List.length_eq_one_iff.1 hlen
                obtain ⟨hT1, u, rfl, hb, hu⟩ := hT
                replace h26 : ac.tmps.getD 26 undef = u.val := by simpa using h26.symm
                rw [LT.val_eq] at h26
                have h26' : ac.tmps[26]?.getD undef = .agg #[.int .i64 u.kind, .int .i64 u.n, .string u.name, .slice u.at_.1 u.args.length u.at_.2] := by rw [← Array.getD_eq_getD_getElem?]; exact h26
                simp only [execOp, Act.eval, h26]
                go_simp
                have hnew := heap_alloc_new W (.cells #[.int .i64 u.kind, .int .i64 u.n, .string u.name, .slice u.at_.1 u.args.length u.at_.2] 41)
                refine ⟨hT1.alloc _, u, W.heap.size, rfl, hb, hu.turned0 ((Turned.refl _ W).alloc _), ?_⟩
                rw [LT.cells_eq]
                exact hnew
            case s9 =>
              refine fun hs hlen => stepG_free [20, 27] [] (by kernel_rfl) rfl ?_
              · intro ac W hT hI hO
                have h20 : ac.tmps.getD 20 undef = .slice a j c := hI 20 (by simp)
                have h27 : hs[1]? = some (ac.tmps.getD 27 undef) := hI 27 (by simp)
                show Brings Try.prog (fun v w' => OwnS N B2 t x w1 j us a c wr (hs ++ [v]) w') _
                obtain ⟨uv, sv, rfl⟩ := list2' hlen
                obtain ⟨hT1, u, g, rfl, hb, hu, hg⟩ := hT
                replace h27 : ac.tmps.getD 27 undef = .slice (some ⟨g, 0, none⟩) 1 1 := by simpa using h27.symm
                refine brings_append (.tmp 20) (.tmp 27) 39 rfl 41 i0 zeroR 4 56 Try.underlying39 hi0 hz0 hz1 hz2 rfl (by decide) _ _ _ h20 (HOI.out.row.turned0 hT1) ⟨g, 0, none⟩ 1 1 u.cells h27 (LT.cells_length u) (news_block hg) (LT.cells_one u) (by omega) (by unfold maxLen; omega) (by omega) ?_
                intro g2 cap2 w2 hrow2 T2 hl2
                have hgw : some g2 = (Value.slice a j c).ownBlock ∨ wr.heap.size ≤ g2 := by
                  rcases hl2 with e | e
                  · exact .inl e
                  · have := hT1.size; exact .inr (by omega)
                refine ⟨u, g2, cap2, rfl, hb, hrow2, ?_, (hT1.mono (fun _ _ f => f.elim)).trans T2, hgw⟩
                refine hu.turned T2 (fun k hk h e => ?_) (fun k hk h => ⟨h, fun e => ?_⟩)
                · have := HOI.out.row.lt k e; omega
                · subst e
                  rcases hl2 with e | e
                  · have := HOI.out.row.lt k e.symm; omega
                  · omega
            case s10 =>
              refine fun hs hle => stepG_free [] [3] (by kernel_rfl) rfl ?_
              · intro ac W hT hI hO
                have h3 : ac.tmps.getD 3 undef = .pointer (some ⟨B2, 0, none⟩) := hO 3 (by simp)
                show Brings Try.prog (fun v w' => Turned (fun _ => False) W w' ∧ v = .pointer (some ⟨B2, 3, none⟩)) _
                simp only [execOp, Act.eval, h3]
                go_simp
                try exact ⟨Turned.refl _ _, rfl⟩
            case s11 =>
              refine fun hs hlen => stepG_free [29, 28] [] (by kernel_rfl) rfl ?_
              · intro ac W hT hI hO
                have h29 : ac.tmps.getD 29 undef = .pointer (some ⟨B2, 3, none⟩) := hI 29 (by simp)
                have h28 : hs[2]? = some (ac.tmps.getD 28 undef) := hI 28 (by simp)
                show Brings Try.prog (fun v w' => OwnS N B2 t x w1 j us a c wr (hs ++ [v]) w') _
                obtain ⟨uv, sv, av, rfl⟩ := list3' hlen
                obtain ⟨u, g, cap, rfl, hb, hrow, hu, hT2, hg⟩ := hT
                replace h28 : ac.tmps.getD 28 undef = .slice (some ⟨g, 0, none⟩) (j + 1) cap := by simpa using h28.symm
                have hbl := (hT2.block B2 (Array.getElem?_eq_some_iff.1 HOI.out.blk).1 (fun e => by have := HOI.out.own B2 e; have := HBN.out.1; omega)).trans HOI.out.blk
                obtain ⟨_, _, _, d3, _, _, _, f3⟩ := cells4 hbl
                simp only [execOp, Act.eval, h29, h28]
                go_simp
                exact ⟨_, _, _, own_close HBN.out.1 HBN.out.2.1 HOI.out HX.out hb hrow hu hT2 hg HBN.out.2.2⟩
          case hQ =>
            intro hs vs w2 hlen hR hV
            obtain ⟨e1, e2, e3, e4, rfl⟩ : ∃ a b c d, hs = [a, b, c, d] := list4' hlen
            obtain ⟨us', a', c', hI⟩ := hR
            have HI' := Lib.hid hI
            simp only [List.foldl_cons, List.foldl_nil, List.setIfInBounds_toArray, List.set_cons_zero, List.set_cons_succ]
            clear hV hlen hI
            go_wp2_with fail
            go_roundg (gk - 1)
            case measure => have := HG.out; omega
            case rel => exact ⟨j + 1, show _ = _ by have := HG.out; omega, by omega, by go_num, us', a', c', HI'⟩
      · obtain rfl : j = t.args.length := by omega
        have hb1 := (HOI.out.turned.block B1 (Array.getElem?_eq_some_iff.1 H3.out.2.2.2.2).1 (fun e => by have := HE.out; omega)).trans H3.out.2.2.2.2
        obtain ⟨d0, d1, d2, d3, f0, f1, f2, f3⟩ := cells4 hb1
        obtain ⟨g0, g1, g2, g3, _⟩ := cells4 HOI.out.blk
        have HB1 := Lib.hid hb1
        clear hb1
        go_wp2_with fail
        have hset := set4 (a' := .int .i64 t.kind) (b' := .int .i64 t.n) (c' := .string t.name) (d' := .slice a t.args.length c) HB1.out
        have hge : w.heap.size ≤ B1 := by have := HE.out; omega
        have T4 := turned4 (a := .int .i64 t.kind) (b := .int .i64 t.n) (c := .string t.name) (d := .slice a t.args.length c) HTw.out hge
        refine bodyPost_ret (v := .agg #[.int .i64 t.kind, .int .i64 t.n, .string t.name, .slice a t.args.length c]) (results_cell_row Try.results44 _ _ B1 41 _ (0, 0) _ rfl hset Try.underlying41 rfl (by kernel_rfl)) rfl ?_
        have hne : ∀ q, (Value.slice a t.args.length c).ownBlock ≠ some (Addr.block ⟨B1, q, none⟩) := fun q e => by have h1 : N ≤ B1 := HOI.out.own _ e; have := HE.out; omega
        have hrow := ((((HOI.out.row.setCell (hne 0) (.int .i64 t.kind)).setCell (hne 1) (.int .i64 t.n)).setCell (hne 2) (.string t.name)).setCell (hne 3) (.slice a t.args.length c))
        have Tq : Turned (fun k => k = B1) wr _ := ((((Turned.refl (fun k => k = B1) wr).setCell (p := ⟨B1, 0, none⟩) (.inr rfl) (.int .i64 t.kind)).setCell (p := ⟨B1, 1, none⟩) (.inr rfl) (.int .i64 t.n)).setCell (p := ⟨B1, 2, none⟩) (.inr rfl) (.string t.name)).setCell (p := ⟨B1, 3, none⟩) (.inr rfl) (.slice a t.args.length c)
        have hins := HOI.out.ins.turned (q := fun k => w.heap.size ≤ k) Tq (fun k _ hk e => by have := HE.out; omega) (fun k _ hk => by have := HE.out; omega)
        obtain ⟨e1, e2⟩ := LT.Sl.of_row (p := fun k => w.heap.size ≤ k) hrow (fun k hk => by have := HOI.out.own k hk; have := HE.out; omega) hins
        refine ⟨.mk t.kind t.n t.name (a, c) us, ?_, ?_, e2.in_ HIN.out.kind HIN.out.n HIN.out.name, T4⟩
        · show _ = Ending.returned (LT.val (.mk t.kind t.n t.name (a, c) us))
          rw [LT.val_eq]
          show _ = Ending.returned (.agg #[.int .i64 t.kind, .int .i64 t.n, .string t.name, .slice a us.length c])
          rw [HUL.out]
        · rw [mk_bare t, Tm.bare, HOI.out.bares, List.take_length]
end Go.Proofs.Ytoihjobdfjajfaa

/- The document's Same. -/
namespace Go.Proofs.Ytoihjobdfjajfaa
set_option linter.unusedVariables false
set_option linter.unusedSimpArgs false
open Go.RowKit

set_option maxRecDepth 100000 in
set_option maxHeartbeats 1600000 in
theorem rSame48 {p : Nat → Prop} (n : Nat) : ∀ (a b : LT) (w : World), a.depth ≤ n → a.In p w → b.In p w →
    Calls Try.prog 48 #[a.val, b.val] w fun e w' => e = .returned (.bool (Tm.same a b)) ∧ Turned (fun _ => False) w w' := by
  induction n with
  | zero => intro a b w h; have := Tm.depth_pos a; omega
  | succ n ih =>
    intro a b w hd ha hb
    have T1 : Turned (fun _ => False) w ((w.alloc (.cells #[.int .i64 a.kind, .int .i64 a.n, .string a.name, .slice a.at_.1 a.args.length a.at_.2] 41)).alloc (.cells #[.int .i64 b.kind, .int .i64 b.n, .string b.name, .slice b.at_.1 b.args.length b.at_.2] 41)) := ((Turned.refl _ w).alloc _).alloc _
    have hbox : ∀ W, Turned (fun _ => False) ((w.alloc (.cells #[.int .i64 a.kind, .int .i64 a.n, .string a.name, .slice a.at_.1 a.args.length a.at_.2] 41)).alloc (.cells #[.int .i64 b.kind, .int .i64 b.n, .string b.name, .slice b.at_.1 b.args.length b.at_.2] 41)) W → W.cell? ⟨w.heap.size, 3, none⟩ = some (.slice a.at_.1 a.args.length a.at_.2) ∧ W.cell? ⟨w.heap.size + 1, 3, none⟩ = some (.slice b.at_.1 b.args.length b.at_.2) := by
      intro W h
      have h1 := (h.block w.heap.size (by simp; omega) (fun f => f)).trans (heap_alloc2_old w _ _)
      have h2 := (h.block (w.heap.size + 1) (by simp) (fun f => f)).trans (heap_alloc2_new w _ _)
      obtain ⟨_, _, _, x3, _⟩ := cells4 h1
      obtain ⟨_, _, _, y3, _⟩ := cells4 h2
      exact ⟨x3, y3⟩
    have HDD := Lib.hid hd
    have HAI := Lib.hid ha
    have HBI := Lib.hid hb
    have l1 := ha.len
    have l2 := hb.len
    have hm1 : a.args.length ≤ 9223372036854775807 := by have := l1.1; have := l1.2.1; unfold maxLen at this; omega
    have hm2 : b.args.length ≤ 9223372036854775807 := by have := l2.1; have := l2.2.1; unfold maxLen at this; omega
    have HV := Lib.hid (same_eq a b)
    have HIH := Lib.hid ih
    rw [LT.val_eq a, LT.val_eq b]
    obtain ⟨a1, ha1⟩ : ∃ z, z = a.at_.1 := ⟨_, rfl⟩
    obtain ⟨c1, hc1⟩ : ∃ z, z = a.at_.2 := ⟨_, rfl⟩
    obtain ⟨a2, ha2⟩ : ∃ z, z = b.at_.1 := ⟨_, rfl⟩
    obtain ⟨c2, hc2⟩ : ∃ z, z = b.at_.2 := ⟨_, rfl⟩
    have HL1 := Lib.hid (fun W h => (LT.In.lies (p := p) (w := W) (t := a) h))
    have HL2 := Lib.hid (fun W h => (LT.In.lies (p := p) (w := W) (t := b) h))
    rw [← ha1, ← hc1, ← ha2, ← hc2] at T1 hbox
    rw [← ha1] at HL1
    rw [← ha2] at HL2
    rw [← ha1, ← hc1, ← ha2, ← hc2]
    clear ha1 hc1 ha2 hc2 ih ha hb hd l1 l2
    have HT1 := Lib.hid T1
    have HBX := Lib.hid hbox
    clear T1 hbox
    by_cases hk : a.kind = b.kind
    rotate_left
    · have kb : (a.kind != b.kind) = true := by simp [hk]
      have HR : Hid (Tm.same a b = false) := by show _ = _; rw [HV.out]; simp [hk]
      clear hk
      go_enter Try.func48, Try.ntmps48
      go_wp2_with fail
      go_ret
      exact ⟨ret_bool HR.out.symm, HT1.out⟩
    have kb : (a.kind != b.kind) = false := by simp [hk]
    have HK := Lib.hid hk
    clear hk
    by_cases hn : a.n = b.n
    rotate_left
    · have nb : (a.n != b.n) = true := by simp [hn]
      have HR : Hid (Tm.same a b = false) := by show _ = _; rw [HV.out]; simp [hn]
      clear hn
      go_enter Try.func48, Try.ntmps48
      go_wp2_with fail
      go_ret
      exact ⟨ret_bool HR.out.symm, HT1.out⟩
    have nb : (a.n != b.n) = false := by simp [hn]
    have HN := Lib.hid hn
    clear hn
    by_cases hs : a.name = b.name
    rotate_left
    · have sb0 : (a.name.toList == b.name.toList) = false := str_neq hs
      have sb : ¬ (a.name.toList = b.name.toList) := by simpa using sb0
      have HR : Hid (Tm.same a b = false) := by show _ = _; rw [HV.out]; simp [hs]
      clear hs sb0
      go_enter Try.func48, Try.ntmps48
      go_wp2_with fail
      go_ret
      exact ⟨ret_bool HR.out.symm, HT1.out⟩
    have sb0 : (a.name.toList == b.name.toList) = true := by rw [hs]; exact str_same _
    have sb : a.name.toList = b.name.toList := by rw [hs]
    have HS := Lib.hid hs
    clear hs sb0
    have HR : Hid (Tm.same a b = Tm.sames a.args b.args) := by show _ = _; rw [HV.out, HK.out, HN.out, HS.out]; simp
    by_cases hl : a.args.length = b.args.length
    rotate_left
    · have lb : ((a.args.length : Int) != (b.args.length : Int)) = true := by simp; omega
      have HR2 := Lib.hid (HR.out.trans (sames_len hl))
      clear hl
      go_enter Try.func48, Try.ntmps48
      go_wp2_with fail
      go_ret
      exact ⟨ret_bool HR2.out.symm, HT1.out⟩
    have lb : ((a.args.length : Int) != (b.args.length : Int)) = false := by simp; omega
    have hl1 : a.args.length ≤ b.args.length := by omega
    have hl2 : b.args.length ≤ a.args.length := by omega
    clear hl
    have HS12 : Hid (((w.alloc (.cells #[.int .i64 a.kind, .int .i64 a.n, .string a.name, .slice a1 a.args.length c1] 41)).alloc (.cells #[.int .i64 b.kind, .int .i64 b.n, .string b.name, .slice a2 b.args.length c2] 41)).heap.size = w.heap.size + 2) := by show _ = _; simp
    go_enter Try.func48, Try.ntmps48
    go_wp2_with fail
    have HTB := And.intro HT1 (And.intro HBX HS12)
    clear HT1 HBX HS12
    revert HTB
    generalize (w.alloc (.cells #[.int .i64 a.kind, .int .i64 a.n, .string a.name, .slice a1 a.args.length c1] 41)).alloc (.cells #[.int .i64 b.kind, .int .i64 b.n, .string b.name, .slice a2 b.args.length c2] 41) = w1
    intro HTB
    obtain ⟨HT1, HBX, _⟩ := HTB
    revert HBX
    generalize hA : w.heap.size = A
    generalize hB : A + 1 = B
    intro HBX
    clear hA hB
    go_loopg [5] a.args.length (fun g i wr => ∃ j : Nat, Hid (j + g = a.args.length) ∧ j ≤ a.args.length ∧ i = .int .i64 j ∧ Hid (Tm.bares (a.args.take j) = Tm.bares (b.args.take j)) ∧ Turned (fun _ => False) w1 wr)
    case atStart => exact ⟨0, Nat.zero_add _, Nat.zero_le _, rfl, rfl, Turned.refl _ _⟩
    case round =>
      obtain ⟨j, HG, hj, rfl, HE, Tr⟩ := hrel
      obtain ⟨q1, q2⟩ := HBX.out _ Tr
      by_cases hjl : j < a.args.length
      · have hx : a.args[j]? = some a.args[j] := List.getElem?_eq_getElem hjl
        have hy : b.args[j]? = some (b.args[j]'(by omega)) := List.getElem?_eq_getElem (by omega)
        obtain ⟨x, hxe⟩ : ∃ x : LT, x = a.args[j] := ⟨_, rfl⟩
        obtain ⟨y, hye⟩ : ∃ y : LT, y = b.args[j]'(by omega) := ⟨_, rfl⟩
        rw [← hxe] at hx
        rw [← hye] at hy
        clear hxe hye
        have ain := HAI.out.turned0 (HT1.out.trans Tr)
        have bin := HBI.out.turned0 (HT1.out.trans Tr)
        have xin := (LT.ins_iff _).1 ain.args x (List.mem_of_getElem? hx)
        have yin := (LT.ins_iff _).1 bin.args y (List.mem_of_getElem? hy)
        obtain ⟨b1, o1, rfl, _, k0, k1, k2, k3⟩ := (HL1.out _ ain).cell hx
        obtain ⟨b2, o2, rfl, _, g0, g1, g2, g3⟩ := (HL2.out _ bin).cell hy
        have hcx := fun W (h : Turned (fun _ => False) wr W) => HIH.out x y W (by have := arg_depth (List.mem_of_getElem? hx); have := HDD.out; omega) (xin.turned0 h) (yin.turned0 h)
        rw [LT.val_eq x, LT.val_eq y] at hcx
        have hkp : ∀ W, Turned (fun _ => False) wr W → W.cell? ⟨A, 3, none⟩ = some (.slice (some ⟨b1, o1, none⟩) a.args.length c1) ∧ W.cell? ⟨B, 3, none⟩ = some (.slice (some ⟨b2, o2, none⟩) b.args.length c2) ∧ W.cell? ⟨b1, o1 + j * 4, none⟩ = some (.int .i64 x.kind) ∧ W.cell? ⟨b1, o1 + j * 4 + 1, none⟩ = some (.int .i64 x.n) ∧ W.cell? ⟨b1, o1 + j * 4 + 2, none⟩ = some (.string x.name) ∧ W.cell? ⟨b1, o1 + j * 4 + 3, none⟩ = some (.slice x.at_.1 x.args.length x.at_.2) ∧ W.cell? ⟨b2, o2 + j * 4, none⟩ = some (.int .i64 y.kind) ∧ W.cell? ⟨b2, o2 + j * 4 + 1, none⟩ = some (.int .i64 y.n) ∧ W.cell? ⟨b2, o2 + j * 4 + 2, none⟩ = some (.string y.name) ∧ W.cell? ⟨b2, o2 + j * 4 + 3, none⟩ = some (.slice y.at_.1 y.args.length y.at_.2) := fun W h => ⟨h.cell0 q1, h.cell0 q2, h.cell0 k0, h.cell0 k1, h.cell0 k2, h.cell0 k3, h.cell0 g0, h.cell0 g1, h.cell0 g2, h.cell0 g3⟩
        have HKP := Lib.hid hkp
        have HX := Lib.hid hx
        have HY := Lib.hid hy
        have HCX := Lib.hid hcx
        clear hx hy hcx xin yin ain bin hkp k0 k1 k2 k3 g0 g1 g2 g3
        have z2 : (j : Int) < (b.args.length : Int) := by omega
        have z3 : j < b.args.length := by omega
        go_wp2_with fail
        · skip
          obtain ⟨B52, HB52⟩ : ∃ B, Hid (B = (!(Tm.same x y))) := ⟨_, rfl⟩
          refine wp_region_hs [41, 42, 43, 44, 45, 46, 47, 48, 49, 50, 51, 52] [] [0, 0, 0, 0, 0, 0, 0, 0, 0, 0, 0, 0] [] (fun d v => (match d with | 41 => v = .pointer (some ⟨A, 3, none⟩) | 42 => v = .slice (some ⟨b1, o1, none⟩) a.args.length c1 | 43 => v = .int .i64 (j : Int) | 44 => v = .pointer (some ⟨b1, o1 + j * 4, none⟩) | 45 => v = .agg #[.int .i64 x.kind, .int .i64 x.n, .string x.name, .slice x.at_.1 x.args.length x.at_.2] | 46 => v = .pointer (some ⟨B, 3, none⟩) | 47 => v = .slice (some ⟨b2, o2, none⟩) b.args.length c2 | 48 => v = .int .i64 (j : Int) | 49 => v = .pointer (some ⟨b2, o2 + j * 4, none⟩) | 50 => v = .agg #[.int .i64 y.kind, .int .i64 y.n, .string y.name, .slice y.at_.1 y.args.length y.at_.2] | 51 => v = .bool (Tm.same x y) | 52 => v = .bool B52 | _ => True : Prop)) (fun _ W => Turned (fun _ => False) wr W) (by kernel_rfl) rfl (by kernel_rfl) (by kernel_rfl) (by kernel_rfl) (by kernel_rfl) (fun _ h => h) (fun _ _ _ h ht => h.trans ht) ?hs ?hQ
          case hs =>
            refine ⟨?s0, ?s1, ?s2, ?s3, ?s4, ?s5, ?s6, ?s7, ?s8, ?s9, ?s10, ?s11, trivial⟩
            case s0 =>
              refine fun hs hle => stepG_free [] [2] (by kernel_rfl) rfl ?_
              · intro ac W hT hI hO
                have h2 : ac.tmps.getD 2 undef = .pointer (some ⟨A, 0, none⟩) := hO 2 (by simp)
                show Brings Try.prog (fun v w' => Turned (fun _ => False) W w' ∧ v = .pointer (some ⟨A, 3, none⟩)) _
                simp only [execOp, Act.eval, h2]
                go_simp
                try exact ⟨Turned.refl _ _, rfl⟩
            case s1 =>
              refine fun hs hle => stepG_free [41] [] (by kernel_rfl) rfl ?_
              · intro ac W hT hI hO
                have h41 : ac.tmps.getD 41 undef = .pointer (some ⟨A, 3, none⟩) := hI 41 (by simp)
                show Brings Try.prog (fun v w' => Turned (fun _ => False) W w' ∧ v = .slice (some ⟨b1, o1, none⟩) a.args.length c1) _
                obtain ⟨p1, p2, k0, k1, k2, k3, g0, g1, g2, g3⟩ := HKP.out W hT
                simp only [execOp, Act.eval, h41]
                go_simp
                exact ⟨Turned.refl _ _, rfl⟩
            case s2 =>
              refine fun hs hle => stepG_free [] [5] (by kernel_rfl) rfl ?_
              · intro ac W hT hI hO
                have h5 : ac.tmps.getD 5 undef = .int .i64 (j : Int) := hO 5 (by simp)
                show Brings Try.prog (fun v w' => Turned (fun _ => False) W w' ∧ v = .int .i64 (j : Int)) _
                simp only [execOp, Act.eval, h5]
                go_simp
                try exact ⟨Turned.refl _ _, rfl⟩
            case s3 =>
              refine fun hs hle => stepG_free [42, 43] [] (by kernel_rfl) rfl ?_
              · intro ac W hT hI hO
                have h42 : ac.tmps.getD 42 undef = .slice (some ⟨b1, o1, none⟩) a.args.length c1 := hI 42 (by simp)
                have h43 : ac.tmps.getD 43 undef = .int .i64 (j : Int) := hI 43 (by simp)
                show Brings Try.prog (fun v w' => Turned (fun _ => False) W w' ∧ v = .pointer (some ⟨b1, o1 + j * 4, none⟩)) _
                simp only [execOp, Act.eval, h42, h43]
                go_simp
                try rw [if_pos (by omega)]
                try exact ⟨Turned.refl _ _, rfl⟩
            case s4 =>
              refine fun hs hle => stepG_free [44] [] (by kernel_rfl) rfl ?_
              · intro ac W hT hI hO
                have h44 : ac.tmps.getD 44 undef = .pointer (some ⟨b1, o1 + j * 4, none⟩) := hI 44 (by simp)
                show Brings Try.prog (fun v w' => Turned (fun _ => False) W w' ∧ v = .agg #[.int .i64 x.kind, .int .i64 x.n, .string x.name, .slice x.at_.1 x.args.length x.at_.2]) _
                obtain ⟨p1, p2, k0, k1, k2, k3, g0, g1, g2, g3⟩ := HKP.out W hT
                simp only [execOp, Act.eval, h44]
                go_simp
                exact ⟨Turned.refl _ _, rfl⟩
            case s5 =>
              refine fun hs hle => stepG_free [] [3] (by kernel_rfl) rfl ?_
              · intro ac W hT hI hO
                have h3 : ac.tmps.getD 3 undef = .pointer (some ⟨B, 0, none⟩) := hO 3 (by simp)
                show Brings Try.prog (fun v w' => Turned (fun _ => False) W w' ∧ v = .pointer (some ⟨B, 3, none⟩)) _
                simp only [execOp, Act.eval, h3]
                go_simp
                try exact ⟨Turned.refl _ _, rfl⟩
            case s6 =>
              refine fun hs hle => stepG_free [46] [] (by kernel_rfl) rfl ?_
              · intro ac W hT hI hO
                have h46 : ac.tmps.getD 46 undef = .pointer (some ⟨B, 3, none⟩) := hI 46 (by simp)
                show Brings Try.prog (fun v w' => Turned (fun _ => False) W w' ∧ v = .slice (some ⟨b2, o2, none⟩) b.args.length c2) _
                obtain ⟨p1, p2, k0, k1, k2, k3, g0, g1, g2, g3⟩ := HKP.out W hT
                simp only [execOp, Act.eval, h46]
                go_simp
                exact ⟨Turned.refl _ _, rfl⟩
            case s7 =>
              refine fun hs hle => stepG_free [] [5] (by kernel_rfl) rfl ?_
              · intro ac W hT hI hO
                have h5 : ac.tmps.getD 5 undef = .int .i64 (j : Int) := hO 5 (by simp)
                show Brings Try.prog (fun v w' => Turned (fun _ => False) W w' ∧ v = .int .i64 (j : Int)) _
                simp only [execOp, Act.eval, h5]
                go_simp
                try exact ⟨Turned.refl _ _, rfl⟩
            case s8 =>
              refine fun hs hle => stepG_free [47, 48] [] (by kernel_rfl) rfl ?_
              · intro ac W hT hI hO
                have h47 : ac.tmps.getD 47 undef = .slice (some ⟨b2, o2, none⟩) b.args.length c2 := hI 47 (by simp)
                have h48 : ac.tmps.getD 48 undef = .int .i64 (j : Int) := hI 48 (by simp)
                show Brings Try.prog (fun v w' => Turned (fun _ => False) W w' ∧ v = .pointer (some ⟨b2, o2 + j * 4, none⟩)) _
                simp only [execOp, Act.eval, h47, h48]
                go_simp
                try rw [if_pos (by omega)]
                try exact ⟨Turned.refl _ _, rfl⟩
            case s9 =>
              refine fun hs hle => stepG_free [49] [] (by kernel_rfl) rfl ?_
              · intro ac W hT hI hO
                have h49 : ac.tmps.getD 49 undef = .pointer (some ⟨b2, o2 + j * 4, none⟩) := hI 49 (by simp)
                show Brings Try.prog (fun v w' => Turned (fun _ => False) W w' ∧ v = .agg #[.int .i64 y.kind, .int .i64 y.n, .string y.name, .slice y.at_.1 y.args.length y.at_.2]) _
                obtain ⟨p1, p2, k0, k1, k2, k3, g0, g1, g2, g3⟩ := HKP.out W hT
                simp only [execOp, Act.eval, h49]
                go_simp
                exact ⟨Turned.refl _ _, rfl⟩
            case s10 =>
              refine fun hs hle => stepG_free [45, 50] [] (by kernel_rfl) rfl ?_
              · intro ac W hT hI hO
                have h45 : ac.tmps.getD 45 undef = .agg #[.int .i64 x.kind, .int .i64 x.n, .string x.name, .slice x.at_.1 x.args.length x.at_.2] := hI 45 (by simp)
                have h50 : ac.tmps.getD 50 undef = .agg #[.int .i64 y.kind, .int .i64 y.n, .string y.name, .slice y.at_.1 y.args.length y.at_.2] := hI 50 (by simp)
                show Brings Try.prog (fun v w' => Turned (fun _ => False) W w' ∧ v = .bool (Tm.same x y)) _
                simp only [execOp, Act.eval, h45, h50]
                go_simp
                show Calls Try.prog 48 _ W _
                (with_reducible refine (HCX.out W hT).mono ?_)
                rintro e w' ⟨rfl, T'⟩
                exact ⟨_, rfl, T', rfl⟩
            case s11 =>
              refine fun hs hle => stepG_free [51] [] (by kernel_rfl) rfl ?_
              · intro ac W hT hI hO
                have h51 : ac.tmps.getD 51 undef = .bool (Tm.same x y) := hI 51 (by simp)
                show Brings Try.prog (fun v w' => Turned (fun _ => False) W w' ∧ v = .bool B52) _
                rw [HB52.out]
                simp only [execOp, Act.eval, h51]
                go_simp
                try exact ⟨Turned.refl _ _, rfl⟩
          case hQ =>
            intro hs vs w2 hlen T2 hV
            have q52 : vs 52 = .bool B52 := hV 52 (by simp)
            rw [HB52.out] at q52
            clear hV hlen hs
            cases hs : Tm.same x y with
            | true =>
              rw [hs] at q52
              replace q52 : vs 52 = .bool false := q52
              have HSE := Lib.hid hs
              simp only [List.foldl_cons, List.foldl_nil, List.setIfInBounds_toArray, List.set_cons_zero, List.set_cons_succ, q52]
              clear q52 hs
              go_wp2_with fail
              go_roundg (gk - 1)
              case measure => have := HG.out; omega
              case rel =>
                refine ⟨j + 1, show _ = _ by have := HG.out; omega, by omega, by go_num, ?_, Tr.trans T2⟩
                show _ = _
                rw [bares_snoc _ _ _ HX.out, bares_snoc _ _ _ HY.out, HE.out, (Tm.same_iff x y).1 HSE.out]
            | false =>
              rw [hs] at q52
              replace q52 : vs 52 = .bool true := q52
              have HSE := Lib.hid hs
              simp only [List.foldl_cons, List.foldl_nil, List.setIfInBounds_toArray, List.set_cons_zero, List.set_cons_succ, q52]
              clear q52 hs
              go_wp2_with fail
              go_ret
              exact ⟨ret_bool (HR.out.trans (sames_no HX.out HY.out HSE.out)).symm, HT1.out.trans (Tr.trans T2)⟩
      · go_wp2_with fail
        go_ret
        refine ⟨ret_bool ?_, HT1.out.trans Tr⟩
        symm
        rw [HR.out, Tm.sames_iff]
        have h := HE.out
        rwa [List.take_of_length_le (by omega), List.take_of_length_le (by omega)] at h
end Go.Proofs.Ytoihjobdfjajfaa

/- What is told of terms and lists of terms for walks that hold them: the head of Says, on its own. -/
namespace Go.Proofs.Ytoihjobdfjajfaa
set_option linter.unusedVariables false
set_option linter.unusedSimpArgs false
open Go.RowKit
theorem deep_depth {α : Type} (k : Nat) : ∀ t : Tm α, deepB k t = false → t.depth ≤ k := by
  induction k with
  | zero => intro t h; simp [deepB] at h
  | succ k ih =>
    intro t h
    simp only [deepB, Bool.or_eq_false_iff, List.any_eq_false] at h
    rw [Tm.depth_eq]
    have : ∀ l : List (Tm α), (∀ x ∈ l, x.depth ≤ k) → Tm.depths l ≤ k := by
      intro l
      induction l with
      | nil => intro _; simp [Tm.depths]
      | cons x l il =>
        intro hl
        simp only [Tm.depths]
        have h1 := hl x (List.mem_cons_self ..)
        have h2 := il (fun y hy => hl y (List.mem_cons_of_mem _ hy))
        omega
    have := this t.args (fun x hx => ih x (by simpa using h.2 x hx))
    omega
theorem deepI33 (t : LT) (W : World) (h : t.In (fun _ => True) W) : Calls Try.prog 33 #[t.val, .int .i64 70] W fun e w' => e = .returned (.bool (deepB 70 t)) ∧ Turned (fun _ => False) W w' := deep33 (fun _ => True) 70 t W (by omega) h
/-- A call of own has been. -/
def OneS (wr : World) (t : LT) : List Value → World → Prop
  | [], W => Turned (fun _ => False) wr W
  | [uv], W => Turned (fun _ => False) wr W ∧ ∃ u : LT, uv = u.val ∧ u.bare = t.bare ∧ u.In (fun _ => True) W
  | _, _ => False
theorem OneS.turned {wr : World} {t : LT} : ∀ (hs : List Value) (W : World), OneS wr t hs W → Turned (fun _ => False) wr W
  | [], _, h => h
  | [_], _, h => h.1
  | _ :: _ :: _, _, h => h.elim
theorem OneS.turned0 {wr : World} {t : LT} : ∀ (hs : List Value) (w w' : World), OneS wr t hs w → Turned (fun _ => False) w w' → OneS wr t hs w'
  | [], _, _, h, ht => Turned.trans h ht
  | [_], _, _, h, ht => by obtain ⟨h1, u, h2, h3, h4⟩ := h; exact ⟨h1.trans ht, u, h2, h3, h4.turned0 ht⟩
  | _ :: _ :: _, _, _, h, _ => h.elim
theorem OneS.at {wr W : World} {t : LT} {hs : List Value} (h : OneS wr t hs W) {v : Value} (hv : hs[0]? = some v) : ∃ u : LT, v = u.val ∧ u.bare = t.bare ∧ u.In (fun _ => True) W := by
  match hs, h, hv with
  | [_], h, hv => simp at hv; subst hv; exact h.2
theorem same_of_bare {α β : Type} {a : Tm α} {b : Tm β} (h : a.bare = b.bare) : Tm.same a b = true := (Tm.same_iff a b).2 h
/-- Both calls of Vars have been. -/
def VarsS (wr : World) (xs : List Int) : List Value → World → Prop
  | [], W => Turned (fun _ => False) wr W
  | [v], W => Turned (fun _ => False) wr W ∧ Row W 2 1 v xs.length (xs.map (Value.int .i64))
  | [v, v'], W => Turned (fun _ => False) wr W ∧ Row W 2 1 v xs.length (xs.map (Value.int .i64)) ∧ Row W 2 1 v' xs.length (xs.map (Value.int .i64))
  | _, _ => False
theorem VarsS.turned {wr : World} {xs : List Int} : ∀ (hs : List Value) (W : World), VarsS wr xs hs W → Turned (fun _ => False) wr W
  | [], _, h => h
  | [_], _, h => h.1
  | [_, _], _, h => h.1
  | _ :: _ :: _ :: _, _, h => h.elim
theorem VarsS.turned0 {wr : World} {xs : List Int} : ∀ (hs : List Value) (w w' : World), VarsS wr xs hs w → Turned (fun _ => False) w w' → VarsS wr xs hs w'
  | [], _, _, h, ht => Turned.trans h ht
  | [_], _, _, h, ht => ⟨h.1.trans ht, h.2.turned0 ht⟩
  | [_, _], _, _, h, ht => ⟨h.1.trans ht, h.2.1.turned0 ht, h.2.2.turned0 ht⟩
  | _ :: _ :: _ :: _, _, _, h, _ => h.elim
theorem VarsS.both {wr W : World} {xs : List Int} {hs : List Value} (h : VarsS wr xs hs W) {v v' : Value} (hv : hs[0]? = some v) (hv' : hs[1]? = some v') : Row W 2 1 v xs.length (xs.map (Value.int .i64)) ∧ Row W 2 1 v' xs.length (xs.map (Value.int .i64)) := by
  match hs, h, hv, hv' with
  | [_, _], h, hv, hv' => simp at hv hv'; subst hv hv'; exact h.2
theorem itemsV46 {p : Nat → Prop} {t : LT} {w : World} (ht : t.In p w) (hsl : slim t) : Calls Try.prog 46 #[t.val] w fun e w' => ∃ (va : Option Addr) (vc : Nat) (us : List LT) (y : LT), e = .returned (.tuple #[.slice va us.length vc, .agg #[.int .i64 y.kind, .int .i64 y.n, .string y.name, .slice y.at_.1 y.args.length y.at_.2]]) ∧ (us, y) = (if goodB t then Tm.items t else ([], t)) ∧ Row w' 27 4 (.slice va us.length vc) us.length (us.flatMap LT.cells) ∧ Turned (fun _ => False) w w' := by
  refine (items46 ht hsl trivial).mono ?_
  rintro e w' ⟨v, us, y, rfl, h1, h2, _, h4⟩
  obtain ⟨va, vc, rfl⟩ := h2.shape
  exact ⟨va, vc, us, y, by rw [LT.val_eq], h1, h2, h4⟩
theorem itemsV47 {p : Nat → Prop} {t : LT} {w : World} (ht : t.In p w) (hsl : slim t) (hd : t.depth ≤ 60000) : Calls Try.prog 47 #[t.val] w fun e w' => ∃ (va : Option Addr) (vc : Nat) (us : List LT) (y : LT), e = .returned (.tuple #[.slice va us.length vc, .agg #[.int .i64 y.kind, .int .i64 y.n, .string y.name, .slice y.at_.1 y.args.length y.at_.2]]) ∧ (us, y) = Tm.items t ∧ Row w' 41 4 (.slice va us.length vc) us.length (us.flatMap LT.cells) ∧ Turned (fun _ => False) w w' := by
  refine (items47 ht hsl hd).mono ?_
  rintro e w' ⟨v, us, y, rfl, h1, h2, _, h4⟩
  obtain ⟨va, vc, rfl⟩ := h2.shape
  exact ⟨va, vc, us, y, by rw [LT.val_eq], h1, h2, h4⟩
/-- What lies in memory when all has been laid. -/
structure SaysI (A B gx gy bT bE : Nat) (a b x y tl en : LT) (us vs : List LT) (lv mv : Value) (W : World) : Prop where
  ca : (W.cell? ⟨A, 0, none⟩ = some (.int .i64 a.kind) ∧ W.cell? ⟨A, 1, none⟩ = some (.int .i64 a.n) ∧ W.cell? ⟨A, 2, none⟩ = some (.string a.name) ∧ W.cell? ⟨A, 3, none⟩ = some (.slice a.at_.1 a.args.length a.at_.2))
  cb : (W.cell? ⟨B, 0, none⟩ = some (.int .i64 b.kind) ∧ W.cell? ⟨B, 1, none⟩ = some (.int .i64 b.n) ∧ W.cell? ⟨B, 2, none⟩ = some (.string b.name) ∧ W.cell? ⟨B, 3, none⟩ = some (.slice b.at_.1 b.args.length b.at_.2))
  cx : (W.cell? ⟨gx, 0, none⟩ = some (.int .i64 x.kind) ∧ W.cell? ⟨gx, 1, none⟩ = some (.int .i64 x.n) ∧ W.cell? ⟨gx, 2, none⟩ = some (.string x.name) ∧ W.cell? ⟨gx, 3, none⟩ = some (.slice x.at_.1 x.args.length x.at_.2))
  cy : (W.cell? ⟨gy, 0, none⟩ = some (.int .i64 y.kind) ∧ W.cell? ⟨gy, 1, none⟩ = some (.int .i64 y.n) ∧ W.cell? ⟨gy, 2, none⟩ = some (.string y.name) ∧ W.cell? ⟨gy, 3, none⟩ = some (.slice y.at_.1 y.args.length y.at_.2))
  ct : (W.cell? ⟨bT, 0, none⟩ = some (.int .i64 tl.kind) ∧ W.cell? ⟨bT, 1, none⟩ = some (.int .i64 tl.n) ∧ W.cell? ⟨bT, 2, none⟩ = some (.string tl.name) ∧ W.cell? ⟨bT, 3, none⟩ = some (.slice tl.at_.1 tl.args.length tl.at_.2))
  ce : (W.cell? ⟨bE, 0, none⟩ = some (.int .i64 en.kind) ∧ W.cell? ⟨bE, 1, none⟩ = some (.int .i64 en.n) ∧ W.cell? ⟨bE, 2, none⟩ = some (.string en.name) ∧ W.cell? ⟨bE, 3, none⟩ = some (.slice en.at_.1 en.args.length en.at_.2))
  ia : a.In (fun _ => True) W
  ib : b.In (fun _ => True) W
  ix : x.In (fun _ => True) W
  iy : y.In (fun _ => True) W
  it : tl.In (fun _ => True) W
  ie : en.In (fun _ => True) W
  iu : ∀ u ∈ us, LT.In (fun _ => True) W u
  iv : ∀ u ∈ vs, LT.In (fun _ => True) W u
  rl : Row W 27 4 lv us.length (us.flatMap LT.cells)
  rm : Row W 41 4 mv vs.length (vs.flatMap LT.cells)
theorem SaysI.turned0 {A B gx gy bT bE : Nat} {a b x y tl en : LT} {us vs : List LT} {lv mv : Value} {W W' : World} (h : SaysI A B gx gy bT bE a b x y tl en us vs lv mv W) (T : Turned (fun _ => False) W W') : SaysI A B gx gy bT bE a b x y tl en us vs lv mv W' :=
  ⟨⟨T.cell0 h.ca.1, T.cell0 h.ca.2.1, T.cell0 h.ca.2.2.1, T.cell0 h.ca.2.2.2⟩, ⟨T.cell0 h.cb.1, T.cell0 h.cb.2.1, T.cell0 h.cb.2.2.1, T.cell0 h.cb.2.2.2⟩, ⟨T.cell0 h.cx.1, T.cell0 h.cx.2.1, T.cell0 h.cx.2.2.1, T.cell0 h.cx.2.2.2⟩, ⟨T.cell0 h.cy.1, T.cell0 h.cy.2.1, T.cell0 h.cy.2.2.1, T.cell0 h.cy.2.2.2⟩, ⟨T.cell0 h.ct.1, T.cell0 h.ct.2.1, T.cell0 h.ct.2.2.1, T.cell0 h.ct.2.2.2⟩, ⟨T.cell0 h.ce.1, T.cell0 h.ce.2.1, T.cell0 h.ce.2.2.1, T.cell0 h.ce.2.2.2⟩,
   h.ia.turned0 T, h.ib.turned0 T, h.ix.turned0 T, h.iy.turned0 T, h.it.turned0 T, h.ie.turned0 T, fun u hu => (h.iu u hu).turned0 T, fun u hu => (h.iv u hu).turned0 T, h.rl.turned0 T, h.rm.turned0 T⟩
theorem row_at {w : World} {ty : TypeId} {la : Option Addr} {n c : Nat} {us : List LT} (h : Row w ty 4 (.slice la n c) n (us.flatMap LT.cells)) {j : Nat} {u : LT} (hj : us[j]? = some u) : ∃ g, la = some ⟨g, 0, none⟩ ∧ w.cell? ⟨g, j * 4, none⟩ = some (.int .i64 u.kind) ∧ w.cell? ⟨g, j * 4 + 1, none⟩ = some (.int .i64 u.n) ∧ w.cell? ⟨g, j * 4 + 2, none⟩ = some (.string u.name) ∧ w.cell? ⟨g, j * 4 + 3, none⟩ = some (.slice u.at_.1 u.args.length u.at_.2) := by
  have hn : n = us.length := by have := h.1; rw [LT.flat_length] at this; omega
  obtain ⟨g, q, e⟩ := h.shape_pos (by have := (List.getElem?_eq_some_iff.1 hj).1; omega)
  injection e with e1 _ e2
  subst e1 e2
  refine ⟨g, rfl, ?_, ?_, ?_, ?_⟩
  · have := LT.flat_at hj 0 (by omega); rw [Nat.add_zero] at this; exact h.cells rfl _ _ (by rw [this, LT.cells_eq]; rfl)
  · exact h.cells rfl _ _ (by rw [LT.flat_at hj 1 (by omega), LT.cells_eq]; rfl)
  · exact h.cells rfl _ _ (by rw [LT.flat_at hj 2 (by omega), LT.cells_eq]; rfl)
  · exact h.cells rfl _ _ (by rw [LT.flat_at hj 3 (by omega), LT.cells_eq]; rfl)
theorem varsV34 {p : Nat → Prop} {t : LT} {w : World} (ht : t.In p w) (hs : slim t) : Calls Try.prog 34 #[t.val] w fun e w' => ∃ v, e = .returned v ∧ Row w' 2 1 v (varsB t).length ((varsB t).map (Value.int .i64)) ∧ Turned (fun _ => False) w w' := by
  refine (vars34 ht hs).mono ?_
  rintro e w' ⟨v, rfl, h1, _, h2⟩
  exact ⟨v, rfl, h1, h2⟩
theorem varsV51 {p : Nat → Prop} {t : LT} {w : World} (ht : t.In p w) : Calls Try.prog 51 #[t.val] w fun e w' => ∃ v, e = .returned v ∧ Row w' 2 1 v (varsB t).length ((varsB t).map (Value.int .i64)) ∧ Turned (fun _ => False) w w' := by
  refine (rVars51 ht).mono ?_
  rintro e w' ⟨v, rfl, h1, _, h2⟩
  exact ⟨v, rfl, h1, h2⟩
theorem bare_at {us vs : List LT} (h : us.map Tm.bare = vs.map Tm.bare) {j : Nat} {u z : LT} (hu : us[j]? = some u) (hz : vs[j]? = some z) : u.bare = z.bare := by
  have e1 : (us.map Tm.bare)[j]? = some u.bare := by rw [List.getElem?_map, hu]; rfl
  have e2 : (vs.map Tm.bare)[j]? = some z.bare := by rw [List.getElem?_map, hz]; rfl
  rw [h, e2] at e1
  injection e1 with e1
  exact e1.symm
theorem twoBox (w : World) (x y : Obj) : Turned (fun _ => False) w ((w.alloc x).alloc y) ∧ ((w.alloc x).alloc y).heap.size = w.heap.size + 2 ∧ ((w.alloc x).alloc y).heap[w.heap.size]? = some x ∧ ((w.alloc x).alloc y).heap[w.heap.size + 1]? = some y :=
  ⟨((Turned.refl _ w).alloc _).alloc _, by simp, heap_alloc2_old w x y, heap_alloc2_new w x y⟩
theorem four_of {W : World} {g : Nat} {x : LT} {T : TypeId} (h : W.heap[g]? = some (.cells #[.int .i64 x.kind, .int .i64 x.n, .string x.name, .slice x.at_.1 x.args.length x.at_.2] T (0, 0))) : (W.cell? ⟨g, 0, none⟩ = some (.int .i64 x.kind) ∧ W.cell? ⟨g, 1, none⟩ = some (.int .i64 x.n) ∧ W.cell? ⟨g, 2, none⟩ = some (.string x.name) ∧ W.cell? ⟨g, 3, none⟩ = some (.slice x.at_.1 x.args.length x.at_.2)) :=
  let ⟨a, b, c, d, _⟩ := cells4 h
  ⟨a, b, c, d⟩
/-- Slim all over. -/
theorem slim_flat {α : Type} {t x : Tm α} (h : slim t) (hx : x ∈ t.flat) : slim x := fun y hy => h y (mem_flat_trans hx hy)
end Go.Proofs.Ytoihjobdfjajfaa
