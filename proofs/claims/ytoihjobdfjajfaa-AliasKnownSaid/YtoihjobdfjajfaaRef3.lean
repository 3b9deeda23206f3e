/- The document's formed, Good. -/
import Derived.Test.YtoihjobdfjajfaaRef1
namespace Go.Proofs.Ytoihjobdfjajfaa
set_option linter.unusedVariables false
set_option linter.unusedSimpArgs false
open Go.RowKit

theorem formed_01 {α : Type} {t : Tm α} (h : t.kind = 0 ∨ t.kind = 1) : formedB t = goodOneB t := by
  by_cases hl : t.args.length = 0
  · exact formed_leaf hl
  · have : goodOneB t = false := by
      rcases h with h | h
      · rw [goodOneB_0 t h]; simp [hl]
      · rw [goodOneB_1 t h]; simp [hl]
    rw [formed_eq, this]; rfl
theorem formed_no {α : Type} {t x : Tm α} {j : Nat} (h : t.args[j]? = some x) (hx : formedB x = false) : formedB t = false := by
  rw [formed_eq, all_no _ _ _ _ h hx, Bool.and_false]
/-- At the head of the loop over the args. -/
def FormR (l : List LT) (w1 : World) (g : Nat) (i : Value) (wr : World) : Prop := ∃ j : Nat, Hid (j + g = l.length) ∧ j ≤ l.length ∧ i = .int .i64 j ∧ Hid ((l.take j).all formedB = true) ∧ Turned (fun _ => False) w1 wr

set_option maxRecDepth 100000 in
set_option maxHeartbeats 1600000 in
theorem formed130 (p : Nat → Prop) (m : Nat) : ∀ (t : LT) (w : World), t.depth ≤ m → t.In p w →
    Calls Try.prog 130 #[t.val] w fun e w' => e = .returned (.bool (formedB t)) ∧ Turned (fun _ => False) w w' := by
  induction m with
  | zero => intro t w h; have := Tm.depth_pos t; omega
  | succ k ih =>
  intro t w hd ht
  have hname := ht.name
  have hl := ht.len
  have hal : t.args.length ≤ 9223372036854775807 := by have := hl.1; have := hl.2.1; unfold maxLen at this; omega
  have hL := fun W h => (LT.In.lies (p := p) (w := W) (t := t) h)
  rw [LT.val_eq]
  obtain ⟨a, ha⟩ : ∃ a, a = t.at_.1 := ⟨_, rfl⟩
  obtain ⟨c, hc⟩ : ∃ c, c = t.at_.2 := ⟨_, rfl⟩
  rw [← ha] at hL
  rw [← ha, ← hc]
  have HL := Lib.hid hL
  have HIN := Lib.hid ht
  have HD := Lib.hid hd
  have HIH := Lib.hid ih
  clear ha hc hl hL ht hd ih
  have T := fun o => (Turned.refl (fun _ => False) w).alloc o
  have HLN : Hid (((t.args.length : Int) == 0) = decide (t.args = [])) := by
    show _ = _
    rw [Bool.eq_iff_iff]; simp
  by_cases h0 : t.kind = 0
  · have k0 : (t.kind == 0) = true := by simp [h0]
    have HR := Lib.hid ((formed_01 (.inl h0)).trans (goodOneB_0 t h0))
    clear h0
    go_enter Try.func130, Try.ntmps130
    go_wp2_with fail
    all_goals
      go_ret
      refine ⟨ret_bool ?_, ?_⟩
      · have hln := HLN.out
        rw [HR.out]
        simp [*] <;> first | omega | (intros; omega)
      · exact T _
  by_cases h1 : t.kind = 1
  · have k0 : (t.kind == 0) = false := by simp [h0]
    have k1 : (t.kind == 1) = true := by simp [h1]
    have HR := Lib.hid ((formed_01 (.inr h1)).trans (goodOneB_1 t h1))
    clear h0 h1
    go_enter Try.func130, Try.ntmps130
    go_wp2_with fail
    all_goals
      go_ret
      refine ⟨ret_bool ?_, ?_⟩
      · have hln := HLN.out
        rw [HR.out]
        simp [*] <;> first | omega | (intros; omega)
      · exact T _
  by_cases h2 : t.kind = 2
  rotate_left
  · have k0 : (t.kind == 0) = false := by simp [h0]
    have k1 : (t.kind == 1) = false := by simp [h1]
    have k2 : (t.kind == 2) = false := by simp [h2]
    have HR : Hid (formedB t = false) := by show _ = _; rw [formed_eq, goodOneB_3 t h0 h1 h2]; rfl
    clear h0 h1 h2
    go_enter Try.func130, Try.ntmps130
    go_wp2_with fail
    go_ret
    exact ⟨ret_bool HR.out.symm, T _⟩
  have k0 : (t.kind == 0) = false := by simp [h0]
  have k1 : (t.kind == 1) = false := by simp [h1]
  have k2 : (t.kind == 2) = true := by simp [h2]
  have HR : Hid (formedB t = ((decide (t.n = 0) && (goodNameB t.name && decide (t.args.length ≤ 8))) && t.args.all formedB)) := by show _ = _; rw [formed_eq, goodOneB_2 t h2]
  clear h0 h1 h2
  by_cases hn : t.n = 0
  rotate_left
  · have kn : (t.n != 0) = true := by simp [hn]
    have HR2 : Hid (formedB t = false) := by show _ = _; rw [HR.out]; simp [hn]
    clear hn
    go_enter Try.func130, Try.ntmps130
    go_wp2_with fail
    go_ret
    exact ⟨ret_bool HR2.out.symm, T _⟩
  have kn : (t.n != 0) = false := by simp [hn]
  have HN := Lib.hid hn
  clear hn
  have hnm : t.name.size ≤ 9223372036854775807 := by unfold maxLen at hname; omega
  clear hname
  by_cases hs : 64 < t.name.size
  · have hz : decide (t.name.size ≤ 64) = false := by simp; omega
    have HR2 : Hid (formedB t = false) := by show _ = _; rw [HR.out]; unfold goodNameB; rw [hz]; simp
    clear hz
    go_enter Try.func130, Try.ntmps130
    go_wp2_with fail
    go_ret
    exact ⟨ret_bool HR2.out.symm, T _⟩
  have ks : decide ((64 : Int) < (t.name.size : Int)) = false := by simp; omega
  have hs64 : t.name.size ≤ 64 := by omega
  clear hs
  by_cases hr : 8 < t.args.length
  · have hz : decide (t.args.length ≤ 8) = false := by simp; omega
    have HR2 : Hid (formedB t = false) := by show _ = _; rw [HR.out, hz]; simp
    clear hz
    go_enter Try.func130, Try.ntmps130
    go_wp2_with fail
    go_ret
    exact ⟨ret_bool HR2.out.symm, T _⟩
  have kr : decide ((8 : Int) < (t.args.length : Int)) = false := by simp; omega
  have hr8 : t.args.length ≤ 8 := by omega
  clear hr
  have HR3 : Hid (formedB t = (t.name.data.toList.all okByte && t.args.all formedB)) := by show _ = _; rw [HR.out, HN.out]; unfold goodNameB; simp [hs64, hr8]
  have HT1 := Lib.hid (T (.cells #[.int .i64 t.kind, .int .i64 t.n, .string t.name, .slice a t.args.length c] 41))
  have hb1 := boxed w #[.int .i64 t.kind, .int .i64 t.n, .string t.name, .slice a t.args.length c] 41
  have HTB := And.intro HT1 (Lib.hid hb1)
  clear T HT1 hb1 HR
  go_enter Try.func130, Try.ntmps130
  go_wp2_with fail
  revert HTB
  generalize w.alloc (.cells #[.int .i64 t.kind, .int .i64 t.n, .string t.name, .slice a t.args.length c] 41) = w1
  intro HTB
  obtain ⟨HT1, HB1⟩ := HTB
  have b2 : w1.cell? ⟨w.heap.size, 2, none⟩ = some (.string t.name) := HB1.out 2
  have b3 : w1.cell? ⟨w.heap.size, 3, none⟩ = some (.slice a t.args.length c) := HB1.out 3
  have B3 := Lib.hid b3
  clear HB1
  go_loop [3] (fun i => ∃ j : Nat, j ≤ t.name.size ∧ i = .int .i64 j ∧ Hid ((t.name.data.toList.take j).all okByte = true)) (fun i => t.name.size - (intOf i).toNat)
  case atStart => exact ⟨0, Nat.zero_le _, rfl, rfl⟩
  case round =>
    obtain ⟨j, hj, rfl, HA⟩ := hrel
    by_cases hjl : j < t.name.size
    · have hx : t.name.data.toList[j]? = some (t.name.data.toList[j]'(by simpa using hjl)) := List.getElem?_eq_getElem _
      obtain ⟨x, hxe⟩ : ∃ x, x = t.name.data.toList[j]'(by simpa using hjl) := ⟨_, rfl⟩
      rw [← hxe] at hx
      have HX := Lib.hid hx
      clear hx
      obtain ⟨n, hn⟩ : ∃ n, n = x.toNat := ⟨_, rfl⟩
      have hgi : (t.name[j]'hjl).toNat = n := by rw [hn, hxe]; rfl
      clear hxe
      by_cases hok : okByte x = true
      · have h9 : n = 9 ∨ n = 10 ∨ (32 ≤ n ∧ n ≤ 126) := by unfold okByte at hok; rw [← hn] at hok; simpa using hok
        have HO := Lib.hid hok
        clear hok
        have HN := Lib.hid hn
        clear hn
        rcases h9 with h9 | h9 | ⟨h8, h9⟩
        · have u1 : n ≤ 9 := by omega
          have u2 : 9 ≤ n := by omega
          have t1 : ((n : Int) != 9) = false := by simp; omega
          clear h9
          go_wp2_with fail
          go_round
          case rel => exact ⟨j + 1, by omega, by go_num, show _ = true by rw [all_snoc _ _ _ _ HX.out, HA.out, HO.out]; rfl⟩
          case measure => simp [intOf]; omega
        · have u1 : n ≤ 10 := by omega
          have u2 : 10 ≤ n := by omega
          have t1 : ((n : Int) != 9) = true := by simp; omega
          have t2 : ((n : Int) != 10) = false := by simp; omega
          clear h9
          go_wp2_with fail
          go_round
          case rel => exact ⟨j + 1, by omega, by go_num, show _ = true by rw [all_snoc _ _ _ _ HX.out, HA.out, HO.out]; rfl⟩
          case measure => simp [intOf]; omega
        · have t1 : decide ((n : Int) < 32) = false := by simp; omega
          have t2 : decide ((126 : Int) < (n : Int)) = false := by simp; omega
          go_wp2_with fail
          all_goals
            go_round
            case rel => exact ⟨j + 1, by omega, by go_num, show _ = true by rw [all_snoc _ _ _ _ HX.out, HA.out, HO.out]; rfl⟩
            case measure => simp [intOf]; omega
      · have ho : okByte x = false := by simpa using hok
        have h9 : ¬ (n = 9 ∨ n = 10 ∨ (32 ≤ n ∧ n ≤ 126)) := by unfold okByte at ho; rw [← hn] at ho; simpa using ho
        have h10 : n ≤ 31 ∨ 127 ≤ n := by omega
        have t1 : ((n : Int) != 9) = true := by simp; omega
        have t2 : ((n : Int) != 10) = true := by simp; omega
        have HO := Lib.hid ho
        clear ho hok h9
        have HN := Lib.hid hn
        clear hn
        rcases h10 with h10 | h10
        all_goals
          go_wp2_with fail
          go_ret
          refine ⟨ret_bool ?_, HT1.out⟩
          rw [HR3.out, all_no _ _ _ _ HX.out HO.out]; rfl
    · have hje : j = t.name.size := by omega
      have hA := HA.out
      rw [hje, List.take_of_length_le (by simp)] at hA
      have HR4 : Hid (formedB t = t.args.all formedB) := by show _ = _; rw [HR3.out, hA, Bool.true_and]
      clear hA HA hje
      go_wp2_with fail
      go_loopg [5] t.args.length (fun g i wr => FormR t.args w1 g i wr)
      case atStart => exact ⟨0, Nat.zero_add _, Nat.zero_le _, rfl, rfl, Turned.refl _ _⟩
      case round =>
        obtain ⟨i, HG, hi, rfl, HE, Tr⟩ := hrel
        have hb := Tr.cell0 B3.out
        by_cases hil : i < t.args.length
        · have hx : t.args[i]? = some t.args[i] := List.getElem?_eq_getElem hil
          obtain ⟨x, hxe⟩ : ∃ x : LT, x = t.args[i] := ⟨_, rfl⟩
          rw [← hxe] at hx
          clear hxe
          have hin := HIN.out.turned0 (HT1.out.trans Tr)
          have hxin := (LT.ins_iff _).1 hin.args x (List.mem_of_getElem? hx)
          obtain ⟨b, o, rfl, _, c0, c1, c2, c3⟩ := (HL.out _ hin).cell hx
          have hih := HIH.out x wr (by have := arg_depth (List.mem_of_getElem? hx); have := HD.out; omega) hxin
          rw [LT.val_eq] at hih
          have HX := Lib.hid hx
          have HI := Lib.hid hih
          clear hx hih hxin hin
          cases hf : formedB x with
          | true =>
            rw [hf] at HI
            have HF := Lib.hid hf
            clear hf
            go_wp2_with (go_at_call 130; refine HI.out.mono ?_; rintro e w2 ⟨rfl, T2⟩)
            go_roundg (gk - 1)
            case measure => have := HG.out; omega
            case rel => exact ⟨i + 1, show _ = _ by have := HG.out; omega, by omega, by go_num, show _ = true by rw [all_snoc _ _ _ _ HX.out, HE.out, HF.out]; rfl, Tr.trans T2⟩
          | false =>
            rw [hf] at HI
            have HF := Lib.hid hf
            clear hf
            go_wp2_with (go_at_call 130; refine HI.out.mono ?_; rintro e w2 ⟨rfl, T2⟩)
            go_ret
            exact ⟨ret_bool (formed_no HX.out HF.out).symm, HT1.out.trans (Tr.trans T2)⟩
        · have hie : i = t.args.length := by omega
          go_wp2_with fail
          go_ret
          refine ⟨ret_bool ?_, HT1.out.trans Tr⟩
          have h := HE.out
          rw [hie, List.take_length] at h
          rw [HR4.out, h]

set_option maxHeartbeats 1600000 in
theorem rGood45 {p : Nat → Prop} {t : LT} {w : World} (ht : t.In p w) :
    Calls Try.prog 45 #[t.val] w fun e w' => e = .returned (.bool (goodB t)) ∧ Turned (fun _ => False) w w' := by
  obtain ⟨bx, hbx⟩ : ∃ bx : Obj, bx = .cells #[.int .i64 t.kind, .int .i64 t.n, .string t.name, .slice t.at_.1 t.args.length t.at_.2] 41 := ⟨_, rfl⟩
  have T1 := (Turned.refl (fun _ => False) w).alloc bx
  have hin : ∀ W, Turned (fun _ => False) (w.alloc bx) W → t.In p W := fun W h => ht.turned0 (T1.trans h)
  have hc : ∀ W, Turned (fun _ => False) (w.alloc bx) W → W.cell? ⟨w.heap.size, 0, none⟩ = some (.int .i64 t.kind) ∧ W.cell? ⟨w.heap.size, 1, none⟩ = some (.int .i64 t.n) ∧ W.cell? ⟨w.heap.size, 2, none⟩ = some (.string t.name) ∧ W.cell? ⟨w.heap.size, 3, none⟩ = some (.slice t.at_.1 t.args.length t.at_.2) := by
    intro W h
    subst hbx
    obtain ⟨hb, _⟩ := box4 h
    obtain ⟨c0, c1, c2, c3, _⟩ := cells4 hb
    exact ⟨c0, c1, c2, c3⟩
  have h1 := fun W h => rSize49 p t.depth t 2000 W (Nat.le_refl _) (by omega) (hin W h)
  have h2 := fun W h => rDepth50 p 64 t W (by omega) (hin W h)
  have h3 := fun W h => formed130 p t.depth t W (Nat.le_refl _) (hin W h)
  rw [LT.val_eq] at h1 h2 h3 ⊢
  replace h1 : ∀ W (h : Turned (fun _ => False) (w.alloc bx) W), Calls Try.prog 49 #[.agg #[.int .i64 t.kind, .int .i64 t.n, .string t.name, .slice t.at_.1 t.args.length t.at_.2], .int .i64 2000] W fun e w' => e = .returned (.int .i64 ((min t.size 2001 : Nat) : Int)) ∧ Turned (fun _ => False) W w' := h1
  replace h2 : ∀ W (h : Turned (fun _ => False) (w.alloc bx) W), Calls Try.prog 50 #[.agg #[.int .i64 t.kind, .int .i64 t.n, .string t.name, .slice t.at_.1 t.args.length t.at_.2], .int .i64 64] W fun e w' => e = .returned (.int .i64 ((min t.depth 65 : Nat) : Int)) ∧ Turned (fun _ => False) W w' := h2
  have H1 := Lib.hid h1
  have H2 := Lib.hid h2
  have H3 := Lib.hid h3
  have HC := Lib.hid hc
  have HT := Lib.hid T1
  subst hbx
  clear h1 h2 h3 hc T1 hin
  by_cases s1 : t.size ≤ 2000
  · by_cases s2 : t.depth ≤ 64
    · have s1' : decide (((min t.size 2001 : Nat) : Int) ≤ 2000) = true := by simp; omega
      have s2' : decide (((min t.depth 65 : Nat) : Int) ≤ 64) = true := by simp; omega
      have HR : Hid (goodB t = formedB t) := by show _ = _; unfold goodB formedB; simp [s1, s2]
      go_enter Try.func45, Try.ntmps45
      go_wp2_with (first
        | (go_at_call 49; refine (H1.out _ (Turned.refl _ _)).mono ?_; rintro e w2 ⟨rfl, T2⟩; obtain ⟨c0, c1, c2, c3⟩ := HC.out _ T2)
        | (go_at_call 50; refine (H2.out _ T2).mono ?_; rintro e w3 ⟨rfl, T3⟩; obtain ⟨d0, d1, d2, d3⟩ := HC.out _ (T2.trans T3))
        | (go_at_call 130; refine (H3.out _ (T2.trans T3)).mono ?_; rintro e w4 ⟨rfl, T4⟩))
      go_ret
      exact ⟨ret_bool HR.out.symm, HT.out.trans (T2.trans (T3.trans T4))⟩
    · have s1' : decide (((min t.size 2001 : Nat) : Int) ≤ 2000) = true := by simp; omega
      have s2' : decide (((min t.depth 65 : Nat) : Int) ≤ 64) = false := by simp; omega
      have HR : Hid (goodB t = false) := by show _ = _; unfold goodB; simp [s2]
      go_enter Try.func45, Try.ntmps45
      go_wp2_with (first
        | (go_at_call 49; refine (H1.out _ (Turned.refl _ _)).mono ?_; rintro e w2 ⟨rfl, T2⟩; obtain ⟨c0, c1, c2, c3⟩ := HC.out _ T2)
        | (go_at_call 50; refine (H2.out _ T2).mono ?_; rintro e w3 ⟨rfl, T3⟩; obtain ⟨d0, d1, d2, d3⟩ := HC.out _ (T2.trans T3)))
      go_ret
      exact ⟨ret_bool HR.out.symm, HT.out.trans (T2.trans T3)⟩
  · have s1' : decide (((min t.size 2001 : Nat) : Int) ≤ 2000) = false := by simp; omega
    have HR : Hid (goodB t = false) := by show _ = _; unfold goodB; simp [s1]
    go_enter Try.func45, Try.ntmps45
    go_wp2_with (go_at_call 49; refine (H1.out _ (Turned.refl _ _)).mono ?_; rintro e w2 ⟨rfl, T2⟩; obtain ⟨c0, c1, c2, c3⟩ := HC.out _ T2)
    go_ret
    exact ⟨ret_bool HR.out.symm, HT.out.trans T2⟩
end Go.Proofs.Ytoihjobdfjajfaa
