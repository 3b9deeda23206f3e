/- TableCuts: the walk of the law. -/
import Derived.Test.YtifideminojgjaaTabsL
namespace Go.Proofs.Ytifideminojgjaa
open Go.RowKit Go.Maps
set_option linter.unusedVariables false
set_option linter.unusedSimpArgs false

/-- The keys that were cut off and have been put in again, down to place x + 1. -/
def again (t : List ByteArray) (n j : Nat) : List ByteArray := t.take n ++ (t.drop (t.length - j)).reverse

theorem again_zero (t : List ByteArray) (n : Nat) : again t n 0 = t.take n := by simp [again]
theorem again_length (t : List ByteArray) (n j : Nat) (hn : n ≤ t.length) (hj : j ≤ t.length) : (again t n j).length = n + j := by simp [again]; omega
theorem again_succ (t : List ByteArray) (n j : Nat) {x : Nat} {s : ByteArray} (hx : x + j + 1 = t.length) (hs : t[x]? = some s) : again t n (j + 1) = again t n j ++ [s] := by
  have h1 : t.length - (j + 1) = x := by omega
  have h2 : t.length - j = x + 1 := by omega
  obtain ⟨hlt, e⟩ := List.getElem?_eq_some_iff.1 hs
  unfold again
  rw [h1, h2, List.drop_eq_getElem_cons hlt, e]
  simp
theorem again_new (t : List ByteArray) (hnd : t.Nodup) (n j : Nat) {x : Nat} {s : ByteArray} (hx : x + j + 1 = t.length) (hn : n ≤ x) (hs : t[x]? = some s) : s ∉ again t n j := by
  unfold again
  intro hm
  rw [List.mem_append, List.mem_reverse] at hm
  rcases hm with hm | hm
  · obtain ⟨i, hi⟩ := List.getElem?_of_mem hm
    rw [List.getElem?_take] at hi
    split at hi
    · have := nodup_at hnd hi hs; omega
    · cases hi
  · obtain ⟨i, hi⟩ := List.getElem?_of_mem hm
    rw [List.getElem?_drop] at hi
    have := nodup_at hnd hi hs; omega

set_option maxHeartbeats 2000000 in
theorem tableCuts (a : Option Addr) (cap : Nat) (ss : List ByteArray) (n : Int) (w : World) (h : StrSl w a ss) (hlen : ss.length ≤ maxLen) :
    Calls Try.prog 4 #[.slice a ss.length cap, .int .i64 n] w fun e w' => e = .returned (.bool true) ∧ Turned (fun _ => False) w w' := by
  unfold maxLen at hlen
  by_cases hbig : 60 < ss.length
  · go_enter Try.func4, Try.ntmps4
    go_wp2_with fail
    refine (awake3 w).mono ?_
    rintro e w1 ⟨rfl, T0⟩
    go_wp2_with fail
    go_ret
    exact ⟨rfl, T0⟩
  · have hd : decide (60 < (ss.length : Int)) = false := by simp; omega
    go_enter Try.func4, Try.ntmps4
    go_wp2_with fail
    refine (awake3 w).mono ?_
    rintro e w0 ⟨rfl, T0⟩
    go_wp2_with fail
    refine (newS 100 w0 w0.heap.size (Nat.le_refl _)).mono ?_
    rintro e w1 ⟨rfl, h1, T1⟩
    have hr : (roomOf 100).toNat = 100 := by decide
    rw [hr] at h1
    clear hr
    go_wp2_with fail
    go_loopw [6] (fun i wr => ∃ k : Nat, k ≤ ss.length ∧ i = .int .i64 k ∧ (∃ lv t, TabS wr w0.heap.size (w0.heap.size + 1) w0.heap.size 100 lv t ∧ t.length ≤ k ∧ ∀ s ∈ t, s.size ≤ maxLen) ∧ Turned (fun _ => False) w0 wr) (fun i _ => ss.length - (intOf i).toNat)
    case atStart => exact ⟨0, Nat.zero_le _, rfl, ⟨_, _, h1, Nat.zero_le _, by simp⟩, T1⟩
    case round =>
      obtain ⟨k, hkl, rfl, ⟨lv, t, ht, htk, hts⟩, hT⟩ := hrel
      by_cases hlt : k < ss.length
      · obtain ⟨s, hs⟩ : ∃ s, ss[k]? = some s := ⟨_, List.getElem?_eq_getElem hlt⟩
        obtain ⟨b, o, rfl⟩ := h.at0 (by omega)
        have hc := ((h.turned T0).turned hT).cell b o rfl k s hs
        have hsz := h.small s (List.mem_of_getElem? hs)
        clear hs
        by_cases hm : s ∈ t
        · obtain ⟨i, hi⟩ := List.getElem?_of_mem hm
          go_wp2_with fail
          refine (putS_hit ht s hsz i hi).mono ?_
          rintro e wr ⟨rfl, rfl⟩
          go_wp2
          go_roundw
          case rel => exact ⟨k + 1, by omega, by go_num, ⟨_, _, ht, by omega, hts⟩, hT⟩
          case measure => (simp [intOf]; try omega)
        · have hsz0 := hT.size
          go_wp2_with fail
          refine (putS_new ht s hsz hm (by omega) hsz0).mono ?_
          rintro e w2 ⟨rfl, lv2, ht2, hT2, _⟩
          have hT3 := hT.of_mine hT2 ht.fresh
          go_wp2
          go_roundw
          case rel => exact ⟨k + 1, by omega, by go_num, ⟨_, _, ht2, by simp; omega, by intro x hx; simp at hx; rcases hx with hx | rfl; exact hts x hx; exact hsz⟩, hT3⟩
          case measure => (simp [intOf]; try omega)
      · obtain rfl : k = ss.length := by omega
        have htl := ht.len
        go_wp2_with fail
        refine (allS ht).mono ?_
        rintro e w2 ⟨v, rfl, hv, hrow, hT2⟩
        obtain ⟨a2, cap2, rfl⟩ := hrow.shape
        have hT3 := hT.trans hT2
        have ht2 := ht.turned0 hT2
        have hap : ∀ k, (Value.slice a2 t.length cap2).ownBlock = some k → ¬ Mine (w0.heap.size + 1) w0.heap.size lv k := fun k e hm => by
          have h1 := hv k e
          have h2 := ht.old k hm
          omega
        clear ht hT hT2
        by_cases hn0 : n < 0
        · go_wp2_with fail
          refine (cutS_no ht2 n (.inl hn0)).mono ?_
          rintro e w3 ⟨rfl, rfl⟩
          go_wp2_with fail
          refine (lenS ht2).mono ?_
          rintro e w3 ⟨rfl, rfl⟩
          go_wp2
          go_ret
          exact ⟨rfl, T0.trans hT3⟩
        · by_cases hn1 : (t.length : Int) < n
          · go_wp2_with fail
            refine (cutS_no ht2 n (.inr hn1)).mono ?_
            rintro e w3 ⟨rfl, rfl⟩
            go_wp2_with fail
            refine (lenS ht2).mono ?_
            rintro e w3 ⟨rfl, rfl⟩
            go_wp2
            go_ret
            exact ⟨rfl, T0.trans hT3⟩
          · obtain ⟨m, rfl⟩ : ∃ m : Nat, n = m := ⟨n.toNat, by omega⟩
            have hd0 : decide ((m : Int) < 0) = false := by simp
            have hd1 : decide ((t.length : Int) < (m : Int)) = false := by simp; omega
            have hd2 : decide (t.length < m) = false := by simp; omega
            have hml : m ≤ t.length := by omega
            have hnd : t.Nodup := by obtain ⟨D, _, hrep⟩ := ht2.maps; exact hrep.nodup
            have hlm : (t.take m).length = m := by rw [List.length_take]; omega
            go_wp2_with fail
            refine (cutS ht2 m hml hts).mono ?_
            rintro e w3 ⟨rfl, lv3, ht3, hT4, hl3⟩
            have hrow3 := hrow.turned hT4 hap
            have hap3 := apart_moved hap hrow.lt (.inl hl3)
            have hT5 := hT3.of_mine hT4 ht2.fresh
            clear hrow hap hT4 ht2 hT3
            have hlenS := lenS ht3
            rw [hlm] at hlenS
            have HLm := Lib.hid hlm
            have HLS := Lib.hid hlenS
            clear hlm hlenS
            go_wp2_with fail
            refine HLS.out.mono ?_
            rintro e w4 ⟨rfl, rfl⟩
            go_wp2_with fail
            go_loopw [8] (fun i wr => ∃ (j : Nat) (x : Int), j ≤ t.length - m ∧ i = .int .i64 x ∧ x + 1 + j ≤ t.length ∧ (t.length : Int) ≤ x + 1 + j ∧ (∃ lv, TabS wr w0.heap.size (w0.heap.size + 1) w0.heap.size 100 lv (again t m j) ∧ (∀ k, (Value.slice a2 t.length cap2).ownBlock = some k → ¬ Mine (w0.heap.size + 1) w0.heap.size lv k)) ∧
                Turned (fun _ => False) w0 wr ∧ Row wr 9 1 (.slice a2 t.length cap2) t.length (t.map Value.string)) (fun i _ => (intOf i + 1).toNat)
            case atStart => exact ⟨0, _, Nat.zero_le _, rfl, by omega, by omega, ⟨_, by rw [again_zero]; exact ht3, hap3⟩, hT5, hrow3⟩
            case round =>
              obtain ⟨j, x, hj, rfl, hx1, hx2, ⟨lv4, ht4, hap4⟩, hT6, hrow4⟩ := hrel
              by_cases hlt2 : j < t.length - m
              · obtain ⟨y, rfl⟩ : ∃ y : Nat, x = y := ⟨x.toNat, by omega⟩
                have hym : m ≤ y := by omega
                have hyt : y < t.length := by omega
                obtain ⟨s, hs⟩ : ∃ s, t[y]? = some s := ⟨_, List.getElem?_eq_getElem hyt⟩
                obtain ⟨g, cap4, hgc⟩ := hrow4.shape_pos (by omega)
                injection hgc with q1 _ q2
                subst q1; subst q2
                have hc := hrow4.cells rfl y (.string s) (by rw [List.getElem?_map, hs]; rfl)
                have hsm := hts s (List.mem_of_getElem? hs)
                have hnew := again_new t hnd m j (x := y) (by omega) hym hs
                have hsucc := Lib.hid (again_succ t m j (x := y) (by omega) hs)
                have hal := Lib.hid (again_length t m j hml (by omega))
                have hroom : (again t m j).length < 100 := by rw [hal.out]; omega
                have hput := Lib.hid (putS_new ht4 s hsm hnew hroom hT6.size)
                rw [hal.out] at hput
                have hgt : (m : Int) ≤ (y : Int) := by omega
                have hne : (((m + j : Nat) : Int) != (m : Int) + (t.length : Int) - 1 - (y : Int)) = false := by rw [bne_eq_false_iff_eq]; omega
                clear hs hnew hroom
                go_wp2_with fail
                refine hput.out.mono ?_
                rintro e w5 ⟨rfl, lv5, ht5, hT7, hmv⟩
                go_wp2
                go_roundw
                case rel => exact ⟨j + 1, (y : Int) - 1, by omega, rfl, by omega, by omega, ⟨lv5, by rw [hsucc.out]; exact ht5, apart_moved hap4 hrow4.lt hmv⟩, hT6.of_mine hT7 ht4.fresh, hrow4.turned hT7 hap4⟩
                case measure => (simp [intOf]; try omega)
              · obtain rfl : j = t.length - m := by omega
                have hxm : x < (m : Int) := by omega
                have hlen4 := lenS ht4
                rw [again_length t m _ hml (by omega), show m + (t.length - m) = t.length from by omega] at hlen4
                have HL4 := Lib.hid hlen4
                clear hlen4
                go_wp2_with fail
                refine HL4.out.mono ?_
                rintro e w5 ⟨rfl, rfl⟩
                go_wp2
                go_ret
                exact ⟨rfl, T0.trans hT6⟩
end Go.Proofs.Ytifideminojgjaa
