/- What the calls of a stack do. -/
import Derived.Test.YtifideminojgjaaStksL
import Derived.Test.YtifideminojgjaaProg
import Derived.LoopTactic
import Derived.BigRegion
namespace Go.Proofs.Ytifideminojgjaa
open Go.RowKit
set_option linter.unusedVariables false
set_option linter.unusedSimpArgs false

set_option maxHeartbeats 1000000 in
theorem stackMarks (a b : Option Addr) (ca cb : Nat) (xs ys : List Int) (pops : Int) (w : World) (ha : Src (Value.int .i64) w a ca xs) (hb : Src (Value.int .i64) w b cb ys) (hl1 : xs.length ≤ maxLen) (hl2 : ys.length ≤ maxLen) :
    Calls Try.prog 10 #[.slice a xs.length ca, .slice b ys.length cb, .int .i64 pops] w fun e w' => e = .returned (.bool true) ∧ Turned (fun _ => False) w w' := by
  unfold maxLen at hl1 hl2
  by_cases hg : 50 < xs.length ∨ 50 < ys.length ∨ pops < 0 ∨ (ys.length : Int) < pops
  · by_cases q1 : 50 < xs.length
    · go_enter Try.func10, Try.ntmps10
      go_wp2_with fail
      refine (awake4 w).mono ?_
      rintro e w0 ⟨rfl, T0⟩
      go_wp2_with fail
      go_ret
      exact ⟨rfl, T0⟩
    · by_cases q2 : 50 < ys.length
      · go_enter Try.func10, Try.ntmps10
        go_wp2_with fail
        refine (awake4 w).mono ?_
        rintro e w0 ⟨rfl, T0⟩
        go_wp2_with fail
        go_ret
        exact ⟨rfl, T0⟩
      · by_cases q3 : pops < 0
        · go_enter Try.func10, Try.ntmps10
          go_wp2_with fail
          refine (awake4 w).mono ?_
          rintro e w0 ⟨rfl, T0⟩
          go_wp2_with fail
          go_ret
          exact ⟨rfl, T0⟩
        · have q4 : (ys.length : Int) < pops := by omega
          clear hg
          go_enter Try.func10, Try.ntmps10
          go_wp2_with fail
          refine (awake4 w).mono ?_
          rintro e w0 ⟨rfl, T0⟩
          go_wp2_with fail
          go_ret
          exact ⟨rfl, T0⟩
  · have q1 : xs.length ≤ 50 := by omega
    have q2 : ys.length ≤ 50 := by omega
    obtain ⟨m, rfl⟩ : ∃ m : Nat, pops = m := ⟨pops.toNat, by omega⟩
    have q4 : m ≤ ys.length := by omega
    have d1 : decide (50 < (xs.length : Int)) = false := by simp; omega
    have d2 : decide (50 < (ys.length : Int)) = false := by simp; omega
    have d3 : decide ((m : Int) < 0) = false := by simp
    have d4 : decide (ys.length < m) = false := by simp; omega
    clear hg
    go_enter Try.func10, Try.ntmps10
    go_wp2_with fail
    refine (awake4 w).mono ?_
    rintro e w0 ⟨rfl, T0⟩
    go_wp2_with fail
    refine (stkNewI 200 w0).mono ?_
    rintro e w1 ⟨rfl, h1, T1⟩
    rw [show (min (max (200 : Int) 1) 65536).toNat = 200 from by decide] at h1
    have ha1 := ha.turned0 (T0.trans T1)
    go_wp2_with fail
    refine (stkPushI (ys := xs) h1 a _ ca rfl (by simp; omega) T1.size ha1.hnone ha1.hsrc).mono ?_
    rintro e w2 ⟨rfl, lv2, h2, T2, _⟩
    have T02 := T1.of_mine2 T2 h1.fresh
    simp only [List.nil_append] at h2
    clear h1 T1 T2 ha1
    go_wp2_with fail
    refine (stkMarkI h2).mono ?_
    rintro e w3 ⟨rfl, rfl⟩
    have hb2 := hb.turned0 (T0.trans T02)
    go_wp2_with fail
    refine (stkPushI (ys := ys) h2 b _ cb rfl (by omega) T02.size hb2.hnone hb2.hsrc).mono ?_
    rintro e w3 ⟨rfl, lv3, h3, T3, _⟩
    have T03 := T02.of_mine2 T3 h2.fresh
    clear h2 T02 T3 hb2
    go_wp2_with fail
    go_loopw [9] (fun i wr => ∃ k : Nat, k ≤ m ∧ i = .int .i64 k ∧ (∃ lv, StkI wr w0.heap.size w0.heap.size 200 lv (xs ++ ys.take (ys.length - k))) ∧ Turned (fun _ => False) w0 wr) (fun i _ => m - (intOf i).toNat)
    case atStart => exact ⟨0, Nat.zero_le _, rfl, ⟨_, by simpa using h3⟩, T03⟩
    case round =>
      obtain ⟨k, hk, rfl, ⟨lv, ht⟩, hT⟩ := hrel
      by_cases hlt : k < m
      · obtain ⟨y, hy⟩ : ∃ y, ys[ys.length - (k + 1)]? = some y := ⟨_, List.getElem?_eq_getElem (by omega)⟩
        have htk : xs ++ ys.take (ys.length - k) = (xs ++ ys.take (ys.length - (k + 1))) ++ [y] := by
          have : ys.length - k = (ys.length - (k + 1)) + 1 := by omega
          rw [this, List.take_add_one, hy, List.append_assoc]; rfl
        rw [htk] at ht
        clear htk hy
        go_wp2_with fail
        refine (stkPopI ht).mono ?_
        rintro e w4 ⟨rfl, lv4, h4, hl4, T4⟩
        go_wp2
        go_roundw
        case rel => exact ⟨k + 1, by omega, by go_num, ⟨_, h4⟩, hT.of_mine2 T4 ht.fresh⟩
        case measure => (simp [intOf]; try omega)
      · obtain rfl : k = m := by omega
        have hlen : (xs ++ ys.take (ys.length - k)).length - xs.length = ys.length - k := by simp
        have htake : (xs ++ ys.take (ys.length - k)).take xs.length = xs := by simp
        have hu := stkUndoI ht xs.length (by simp)
        rw [hlen, htake] at hu
        have HU := Lib.hid hu
        clear hu hlen htake
        go_wp2_with fail
        refine HU.out.mono ?_
        rintro e w4 ⟨v, lv4, rfl, hv, hfr, h4, hl4, T4⟩
        have T04 := hT.of_mine2 T4 ht.fresh
        obtain ⟨va, ca4, rfl⟩ := hv.shape
        clear ht hT T4
        have hq : (((ys.length - k : Nat) : Int) == (ys.length : Int) - (k : Int)) = true := by rw [beq_iff_eq]; omega
        go_wp2_with fail
        refine (stkAllI h4).mono ?_
        rintro e w5 ⟨v5, rfl, hv5, _, T5⟩
        obtain ⟨a5, c5, rfl⟩ := hv5.shape
        go_wp2_with fail
        have T05 := T04.trans T5
        refine (ints_any (xs := xs) (ys := xs) hv5.src (ha.turned0 (T0.trans T05)) (by omega) (by omega)).mono ?_
        rintro e w6 ⟨rfl, T6⟩
        rw [decide_eq_true (rfl : xs = xs)]
        go_wp2
        go_ret
        exact ⟨rfl, (T0.trans T05).trans T6⟩

end Go.Proofs.Ytifideminojgjaa
